/-
  Part 4 of awake of TraceNone. No condition.
-/
import Derived.Test.YtkaaabledegkbaaGreatDoorIB
namespace Go.Proofs.YtkaaabledegkbaaGreatDoor
open Go.RowKit
theorem part4 : reaches (acode Tryz.prog (envP Tryz.prog) eqP (amP Tryz.prog).1 (amP Tryz.prog).2 Tryz.f4.ntmps 1000 none (seqL (cAt 3 (bodyOf Tryz.f4))) S3.T S3.H []) S4 = true := by kernel_rfl
end Go.Proofs.YtkaaabledegkbaaGreatDoor
