/-
  Part 11 of awake of IncrNone. No condition.
-/
import Derived.Test.YtbbbloicnihpeaaGreatDoorIB
namespace Go.Proofs.YtbbbloicnihpeaaGreatDoor
open Go.RowKit
theorem part11 : reaches (acode Tryz.prog (envP Tryz.prog) eqP (amQ Tryz.prog).1 (amQ Tryz.prog).2 Tryz.f4.ntmps 1000 none (seqL (cAt 10 (bodyOf Tryz.f4))) S10.T S10.H []) S11 = true := by kernel_rfl
end Go.Proofs.YtbbbloicnihpeaaGreatDoor
