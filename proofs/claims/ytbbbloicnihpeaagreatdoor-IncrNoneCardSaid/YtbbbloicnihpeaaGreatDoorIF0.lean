/-
  Closed facts of the row of IncrNone. No condition.
-/
import Derived.Test.YtbbbloicnihpeaaGreatDoorRows
import Derived.JoinedOf
import Derived.KernelRfl
namespace Go.Proofs.YtbbbloicnihpeaaGreatDoor
theorem fact0 : (Rows.incrNoneRow.wf (OpenSpec.ofChange Rows.incrNoneSpec) : Bool) = true := by kernel_rfl
theorem fact1 : (laidOutB Tryz.prog : Bool) = true := by kernel_rfl
theorem fact2 : (mapsRowed Tryz.prog : Bool) = true := by kernel_rfl
theorem fact3 : (Tryz.f3.params.all (Tryz.prog.readableRec ·) : Bool) = true := by kernel_rfl
theorem fact4 : (namedTie Tryz.prog Rows.incrNoneRow.named Rows.incrNoneSpec.vars : Bool) = true := by kernel_rfl
theorem fact5 : ((Rows.incrNoneRow.stops == []) : Bool) = true := by kernel_rfl
theorem fact6 : ((Tryz.prog.stops == []) : Bool) = true := by kernel_rfl
theorem fact7 : ((Rows.incrNoneRow.knobs == []) : Bool) = true := by kernel_rfl
theorem fact8 : ((Tryz.prog.stopKnobs == []) : Bool) = true := by kernel_rfl
theorem fact9 : ((Rows.incrNoneRow.inPlace == Tryz.prog.inPlace 3) : Bool) = true := by kernel_rfl
theorem fact10 : ((Rows.incrNoneRow.unfollowed == Tryz.prog.unfollowed 3) : Bool) = true := by kernel_rfl
theorem fact11 : ((Rows.incrNoneRow.recurses == Tryz.prog.recurses 3) : Bool) = true := by kernel_rfl
theorem fact12 : ((Rows.incrNoneRow.named == Tryz.prog.varsNamed 3) : Bool) = true := by kernel_rfl
theorem fact13 : ((Rows.incrNoneRow.maps == (Tryz.f3.params.toList ++ Rows.incrNoneSpec.plain.varTypes Tryz.prog).any (Tryz.prog.mapsRec ·)) : Bool) = true := by kernel_rfl
theorem fact14 : ((Rows.incrNoneRow.ifaces == (Tryz.f3.params.toList ++ Rows.incrNoneSpec.plain.varTypes Tryz.prog).any (Tryz.prog.ifacesRec ·)) : Bool) = true := by kernel_rfl
theorem fact15 : ((Rows.incrNoneRow.mapsOut == Tryz.prog.mapsAmong Tryz.f3.resultTypes.toList) : Bool) = true := by kernel_rfl
end Go.Proofs.YtbbbloicnihpeaaGreatDoor
