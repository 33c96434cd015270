/-
  Closed facts of the row of CalcTold. No condition.
-/
import Derived.Test.YtgdkdmcjjcgcaaaGreatDoorRows
import Derived.JoinedOf
import Derived.KernelRfl
set_option linter.unusedSectionVars false
namespace Go.Proofs.YtgdkdmcjjcgcaaaGreatDoor
theorem fact0 : (Rows.calcToldRow.wf (OpenSpec.ofChange Rows.calcToldSpec) : Bool) = true := by kernel_rfl
theorem fact1 : (laidOutB Tryz.prog : Bool) = true := by kernel_rfl
theorem fact2 : (mapsRowed Tryz.prog : Bool) = true := by kernel_rfl
theorem fact3 : (Tryz.f3.params.all (Tryz.prog.readableRec ·) : Bool) = true := by kernel_rfl
theorem fact4 : (namedTie Tryz.prog Rows.calcToldRow.named Rows.calcToldSpec.vars : Bool) = true := by kernel_rfl
theorem fact5 : ((Rows.calcToldRow.stops == []) : Bool) = true := by kernel_rfl
theorem fact6 : ((Tryz.prog.stops == []) : Bool) = true := by kernel_rfl
theorem fact7 : ((Rows.calcToldRow.knobs == []) : Bool) = true := by kernel_rfl
theorem fact8 : ((Tryz.prog.stopKnobs == []) : Bool) = true := by kernel_rfl
theorem fact9 : ((Rows.calcToldRow.inPlace == Tryz.prog.inPlace 3) : Bool) = true := by kernel_rfl
theorem fact10 : ((Rows.calcToldRow.unfollowed == Tryz.prog.unfollowed 3) : Bool) = true := by kernel_rfl
theorem fact11 : ((Rows.calcToldRow.recurses == Tryz.prog.recurses 3) : Bool) = true := by kernel_rfl
theorem fact12 : ((Rows.calcToldRow.named == Tryz.prog.varsNamed 3) : Bool) = true := by kernel_rfl
theorem fact13 : ((Rows.calcToldRow.maps == (Tryz.f3.params.toList ++ Rows.calcToldSpec.plain.varTypes Tryz.prog).any (Tryz.prog.mapsRec ·)) : Bool) = true := by kernel_rfl
theorem fact14 : ((Rows.calcToldRow.ifaces == (Tryz.f3.params.toList ++ Rows.calcToldSpec.plain.varTypes Tryz.prog).any (Tryz.prog.ifacesRec ·)) : Bool) = true := by kernel_rfl
theorem fact15 : ((Rows.calcToldRow.mapsOut == Tryz.prog.mapsAmong Tryz.f3.resultTypes.toList) : Bool) = true := by kernel_rfl
end Go.Proofs.YtgdkdmcjjcgcaaaGreatDoor
