/-
  Part 5 of awake of TraceNone. No condition.
-/
import Derived.Test.YtkaaabledegkbaaGreatDoorIB
namespace Go.Proofs.YtkaaabledegkbaaGreatDoor
open Go.RowKit
theorem part5 : reaches (acode Tryz.prog (envP Tryz.prog) eqP (amP Tryz.prog).1 (amP Tryz.prog).2 Tryz.f4.ntmps 1000 none (seqL (cAt 4 (bodyOf Tryz.f4))) S4.T S4.H []) S5 = true := by kernel_rfl
end Go.Proofs.YtkaaabledegkbaaGreatDoor
