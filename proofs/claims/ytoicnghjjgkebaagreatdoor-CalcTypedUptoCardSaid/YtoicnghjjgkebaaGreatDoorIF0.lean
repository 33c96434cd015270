/-
  Closed facts of the row of CalcTyped (at bulk at most 1048576). No condition.
-/
import Derived.Test.YtoicnghjjgkebaaGreatDoorRows
import Derived.JoinedOf
import Derived.KernelRfl
set_option linter.unusedSectionVars false
set_option linter.unusedSimpArgs false
set_option linter.unusedVariables false
set_option linter.unnecessarySimpa false
namespace Go.Proofs.YtoicnghjjgkebaaGreatDoor
theorem fact0 : (Rows.calcTypedUptoRow.wf (OpenSpec.ofChange (Rows.OpenSpec.upto Rows.calcTypedSpec).bare) : Bool) = true := by kernel_rfl
theorem fact1 : (laidOutB Tryz.prog : Bool) = true := by kernel_rfl
theorem fact2 : (mapsRowed Tryz.prog : Bool) = true := by kernel_rfl
theorem fact3 : (Tryz.f3.params.all (Tryz.prog.readableRec ·) : Bool) = true := by kernel_rfl
theorem fact4 : (namedTie Tryz.prog Rows.calcTypedUptoRow.named (Rows.OpenSpec.upto Rows.calcTypedSpec).bare.vars : Bool) = true := by kernel_rfl
theorem fact5 : ((Rows.calcTypedUptoRow.stops == []) : Bool) = true := by kernel_rfl
theorem fact6 : ((Tryz.prog.stops == []) : Bool) = true := by kernel_rfl
theorem fact7 : ((Rows.calcTypedUptoRow.knobs == []) : Bool) = true := by kernel_rfl
theorem fact8 : ((Tryz.prog.stopKnobs == []) : Bool) = true := by kernel_rfl
theorem fact9 : ((Rows.calcTypedUptoRow.inPlace == Tryz.prog.inPlace 3) : Bool) = true := by kernel_rfl
theorem fact10 : ((Rows.calcTypedUptoRow.unfollowed == Tryz.prog.unfollowed 3) : Bool) = true := by kernel_rfl
theorem fact11 : ((Rows.calcTypedUptoRow.recurses == Tryz.prog.recurses 3) : Bool) = true := by kernel_rfl
theorem fact12 : ((Rows.calcTypedUptoRow.named == Tryz.prog.varsNamed 3) : Bool) = true := by kernel_rfl
theorem fact13 : ((Rows.calcTypedUptoRow.maps == (Tryz.f3.params.toList ++ (Rows.OpenSpec.upto Rows.calcTypedSpec).bare.plain.varTypes Tryz.prog).any (Tryz.prog.mapsRec ·)) : Bool) = true := by kernel_rfl
theorem fact14 : ((Rows.calcTypedUptoRow.ifaces == (Tryz.f3.params.toList ++ (Rows.OpenSpec.upto Rows.calcTypedSpec).bare.plain.varTypes Tryz.prog).any (Tryz.prog.ifacesRec ·)) : Bool) = true := by kernel_rfl
theorem fact15 : ((Rows.calcTypedUptoRow.mapsOut == Tryz.prog.mapsAmong Tryz.f3.resultTypes.toList) : Bool) = true := by kernel_rfl
end Go.Proofs.YtoicnghjjgkebaaGreatDoor
