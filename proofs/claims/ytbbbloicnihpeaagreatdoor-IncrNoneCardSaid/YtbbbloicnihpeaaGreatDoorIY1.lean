/-
  What a call of calc.begin hands back, of awake of IncrNone. No condition.
-/
import Derived.Test.YtbbbloicnihpeaaGreatDoorIB
namespace Go.Proofs.YtbbbloicnihpeaaGreatDoor
open Go.RowKit
theorem ov1 : givesB ((amP Tryz.prog).1 50 as_1 X0_1.H) v_1 X1_1 = true := by kernel_rfl
end Go.Proofs.YtbbbloicnihpeaaGreatDoor
