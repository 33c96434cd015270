/-
  What a call hands back, of awake of TraceNone. No condition.
-/
import Derived.Test.YtkaaabledegkbaaGreatDoorIB
namespace Go.Proofs.YtkaaabledegkbaaGreatDoor
open Go.RowKit
theorem ov2 : givesB ((amP Tryz.prog).1 9 as_2 X0_2.H) v_2 X1_2 = true := by kernel_rfl
end Go.Proofs.YtkaaabledegkbaaGreatDoor
