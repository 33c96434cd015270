/-
  What a call hands back, of awake of TraceNone. No condition.
-/
import Derived.Test.YtkaaabledegkbaaGreatDoorIB
namespace Go.Proofs.YtkaaabledegkbaaGreatDoor
open Go.RowKit
theorem ov3 : givesB ((amP Tryz.prog).1 8 as_3 X0_3.H) v_3 X1_3 = true := by kernel_rfl
end Go.Proofs.YtkaaabledegkbaaGreatDoor
