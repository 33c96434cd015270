/-
  What a call hands back, of awake of TraceNone. No condition.
-/
import Derived.Test.YtkaaabledegkbaaGreatDoorIB
namespace Go.Proofs.YtkaaabledegkbaaGreatDoor
open Go.RowKit
theorem ov1 : givesB ((amP Tryz.prog).1 7 as_1 X0_1.H) v_1 X1_1 = true := by kernel_rfl
end Go.Proofs.YtkaaabledegkbaaGreatDoor
