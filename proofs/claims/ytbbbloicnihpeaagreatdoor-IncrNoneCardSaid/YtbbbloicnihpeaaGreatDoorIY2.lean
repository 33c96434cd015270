/-
  What a call of calc.begin hands back, of awake of IncrNone. No condition.
-/
import Derived.Test.YtbbbloicnihpeaaGreatDoorIB
namespace Go.Proofs.YtbbbloicnihpeaaGreatDoor
open Go.RowKit
theorem ov2 : givesB ((amP Tryz.prog).1 50 as_2 X0_2.H) v_2 X1_2 = true := by kernel_rfl
end Go.Proofs.YtbbbloicnihpeaaGreatDoor
