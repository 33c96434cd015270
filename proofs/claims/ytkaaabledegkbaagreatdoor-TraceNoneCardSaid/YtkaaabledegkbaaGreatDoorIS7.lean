/-
  The last part of awake of TraceNone. No condition.
-/
import Derived.Test.YtkaaabledegkbaaGreatDoorIB
namespace Go.Proofs.YtkaaabledegkbaaGreatDoor
open Go.RowKit
theorem part7 : tellsC (envP Tryz.prog) Tryz.f4 (acode Tryz.prog (envP Tryz.prog) eqP (amQ Tryz.prog).1 (amQ Tryz.prog).2 Tryz.f4.ntmps 1000 none (cAt 6 (bodyOf Tryz.f4)) S6.T S6.H []) = true := by kernel_rfl
end Go.Proofs.YtkaaabledegkbaaGreatDoor
