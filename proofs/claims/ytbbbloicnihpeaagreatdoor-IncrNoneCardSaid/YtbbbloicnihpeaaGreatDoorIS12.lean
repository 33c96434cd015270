/-
  The last part of awake of IncrNone. No condition.
-/
import Derived.Test.YtbbbloicnihpeaaGreatDoorIB
namespace Go.Proofs.YtbbbloicnihpeaaGreatDoor
open Go.RowKit
theorem part12 : tellsC (envP Tryz.prog) Tryz.f4 (acode Tryz.prog (envP Tryz.prog) eqP (amP Tryz.prog).1 (amP Tryz.prog).2 Tryz.f4.ntmps 1000 none (cAt 11 (bodyOf Tryz.f4)) S11.T S11.H []) = true := by kernel_rfl
end Go.Proofs.YtbbbloicnihpeaaGreatDoor
