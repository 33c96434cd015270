/-
  Closed facts of the row of FuncsShapes. No condition.
-/
import Derived.Test.YtdmbppgogdkpdaaGreatDoorEP
namespace Go.Proofs.YtdmbppgogdkpdaaGreatDoor
theorem fact0_Shapes : (Rows.funcsShapesRow.wf (OpenSpec.ofChange Rows.funcsShapesSpec) : Bool) = true := by kernel_rfl
theorem fact3_Shapes : (Tryz.f4.params.all (Tryz.prog.readableRec ·) : Bool) = true := by kernel_rfl
theorem fact4_Shapes : (namedTie Tryz.prog Rows.funcsShapesRow.named Rows.funcsShapesSpec.vars : Bool) = true := by kernel_rfl
theorem fact5_Shapes : ((Rows.funcsShapesRow.stops == []) : Bool) = true := by kernel_rfl
theorem fact7_Shapes : ((Rows.funcsShapesRow.knobs == []) : Bool) = true := by kernel_rfl
theorem fact9_Shapes : ((Rows.funcsShapesRow.inPlace == Tryz.prog.inPlace 4) : Bool) = true := by kernel_rfl
theorem fact10_Shapes : ((Rows.funcsShapesRow.unfollowed == Tryz.prog.unfollowed 4) : Bool) = true := by kernel_rfl
theorem fact11_Shapes : ((Rows.funcsShapesRow.recurses == Tryz.prog.recurses 4) : Bool) = true := by kernel_rfl
theorem fact12_Shapes : ((Rows.funcsShapesRow.named == Tryz.prog.varsNamed 4) : Bool) = true := by kernel_rfl
theorem fact13_Shapes : ((Rows.funcsShapesRow.maps == (Tryz.f4.params.toList ++ Rows.funcsShapesSpec.plain.varTypes Tryz.prog).any (Tryz.prog.mapsRec ·)) : Bool) = true := by kernel_rfl
theorem fact14_Shapes : ((Rows.funcsShapesRow.ifaces == (Tryz.f4.params.toList ++ Rows.funcsShapesSpec.plain.varTypes Tryz.prog).any (Tryz.prog.ifacesRec ·)) : Bool) = true := by kernel_rfl
theorem fact15_Shapes : ((Rows.funcsShapesRow.mapsOut == Tryz.prog.mapsAmong Tryz.f4.resultTypes.toList) : Bool) = true := by kernel_rfl
theorem fact16_Shapes : ((Rows.funcsShapesRow.loops == (Tryz.f4.params.toList ++ Rows.funcsShapesSpec.plain.varTypes Tryz.prog).any (Tryz.prog.loopsFrom ·)) : Bool) = true := by kernel_rfl
theorem fact17_Shapes : ((Rows.funcsShapesRow.wideKeys == (Tryz.f4.params.toList ++ Rows.funcsShapesSpec.plain.varTypes Tryz.prog ++ Tryz.f4.resultTypes.toList).any (Tryz.prog.wideKeysFrom ·)) : Bool) = true := by kernel_rfl
theorem fact18_Shapes : (Rows.funcsShapesSpec.vars.all (Tryz.prog.varReadable ·) : Bool) = true := by kernel_rfl
theorem fact19_Shapes : (Tryz.f4.resultTypes.all (fun t => Tryz.prog.readableRec t && decide (t < Tryz.prog.types.size)) : Bool) = true := by kernel_rfl
theorem fact20_Shapes : ((Rows.funcsShapesRow.ifacesOut == Tryz.f4.resultTypes.toList.any (Tryz.prog.ifacesRec ·)) : Bool) = true := by kernel_rfl
theorem fact21_Shapes : ((Rows.funcsShapesRow.loopsOut == Tryz.f4.resultTypes.toList.any (Tryz.prog.loopsFrom ·)) : Bool) = true := by kernel_rfl
theorem fact22_Shapes : ((Rows.funcsShapesRow.plainKeys == Tryz.prog.plainKeys) : Bool) = true := by kernel_rfl
theorem fact23_Shapes : (Rows.funcsShapesRow.shortTexts.isNone : Bool) = true := by kernel_rfl
theorem fact26_Shapes : ((Rows.funcsShapesRow.lifted == Tryz.prog.liftsFinal) : Bool) = true := by kernel_rfl
theorem fact27_Shapes : ((Tryz.prog.make == some Rows.funcsShapesRow.make) : Bool) = true := by kernel_rfl
theorem fact28_Shapes : ((Rows.funcsShapesRow.kinds == (if Rows.funcsShapesRow.domain.isEmpty then [] else Tryz.f4.params.toList.map fun t => match Tryz.prog.underlying t with | some (.int k) => some k | _ => none)) : Bool) = true := by kernel_rfl
theorem fact29_Shapes : ((Rows.funcsShapesRow.pinned == Rows.funcsShapesRow.pinnedBy) : Bool) = true := by kernel_rfl
theorem fact30_Shapes : ((Rows.funcsShapesRow.veiled == (Tryz.f4.params.toList ++ Rows.funcsShapesSpec.plain.varTypes Tryz.prog ++ Tryz.f4.resultTypes.toList).any (Tryz.prog.veiledRec ·)) : Bool) = true := by kernel_rfl
theorem fact31_Shapes : (Rows.funcsShapesRow.veiledFits Tryz.prog Tryz.f4.params.toList (Tryz.f4.params.toList ++ Rows.funcsShapesSpec.plain.varTypes Tryz.prog ++ Tryz.f4.resultTypes.toList) : Bool) = true := by kernel_rfl
end Go.Proofs.YtdmbppgogdkpdaaGreatDoor
