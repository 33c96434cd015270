/-
  Closed facts of the row of FuncsPieces. No condition.
-/
import Derived.Test.YtdmbppgogdkpdaaGreatDoorEP
namespace Go.Proofs.YtdmbppgogdkpdaaGreatDoor
theorem fact0_Pieces : (Rows.funcsPiecesRow.wf (OpenSpec.ofChange Rows.funcsPiecesSpec) : Bool) = true := by kernel_rfl
theorem fact3_Pieces : (Tryz.f5.params.all (Tryz.prog.readableRec ·) : Bool) = true := by kernel_rfl
theorem fact4_Pieces : (namedTie Tryz.prog Rows.funcsPiecesRow.named Rows.funcsPiecesSpec.vars : Bool) = true := by kernel_rfl
theorem fact5_Pieces : ((Rows.funcsPiecesRow.stops == []) : Bool) = true := by kernel_rfl
theorem fact7_Pieces : ((Rows.funcsPiecesRow.knobs == []) : Bool) = true := by kernel_rfl
theorem fact9_Pieces : ((Rows.funcsPiecesRow.inPlace == Tryz.prog.inPlace 5) : Bool) = true := by kernel_rfl
theorem fact10_Pieces : ((Rows.funcsPiecesRow.unfollowed == Tryz.prog.unfollowed 5) : Bool) = true := by kernel_rfl
theorem fact11_Pieces : ((Rows.funcsPiecesRow.recurses == Tryz.prog.recurses 5) : Bool) = true := by kernel_rfl
theorem fact12_Pieces : ((Rows.funcsPiecesRow.named == Tryz.prog.varsNamed 5) : Bool) = true := by kernel_rfl
theorem fact13_Pieces : ((Rows.funcsPiecesRow.maps == (Tryz.f5.params.toList ++ Rows.funcsPiecesSpec.plain.varTypes Tryz.prog).any (Tryz.prog.mapsRec ·)) : Bool) = true := by kernel_rfl
theorem fact14_Pieces : ((Rows.funcsPiecesRow.ifaces == (Tryz.f5.params.toList ++ Rows.funcsPiecesSpec.plain.varTypes Tryz.prog).any (Tryz.prog.ifacesRec ·)) : Bool) = true := by kernel_rfl
theorem fact15_Pieces : ((Rows.funcsPiecesRow.mapsOut == Tryz.prog.mapsAmong Tryz.f5.resultTypes.toList) : Bool) = true := by kernel_rfl
theorem fact16_Pieces : ((Rows.funcsPiecesRow.loops == (Tryz.f5.params.toList ++ Rows.funcsPiecesSpec.plain.varTypes Tryz.prog).any (Tryz.prog.loopsFrom ·)) : Bool) = true := by kernel_rfl
theorem fact17_Pieces : ((Rows.funcsPiecesRow.wideKeys == (Tryz.f5.params.toList ++ Rows.funcsPiecesSpec.plain.varTypes Tryz.prog ++ Tryz.f5.resultTypes.toList).any (Tryz.prog.wideKeysFrom ·)) : Bool) = true := by kernel_rfl
theorem fact18_Pieces : (Rows.funcsPiecesSpec.vars.all (Tryz.prog.varReadable ·) : Bool) = true := by kernel_rfl
theorem fact19_Pieces : (Tryz.f5.resultTypes.all (fun t => Tryz.prog.readableRec t && decide (t < Tryz.prog.types.size)) : Bool) = true := by kernel_rfl
theorem fact20_Pieces : ((Rows.funcsPiecesRow.ifacesOut == Tryz.f5.resultTypes.toList.any (Tryz.prog.ifacesRec ·)) : Bool) = true := by kernel_rfl
theorem fact21_Pieces : ((Rows.funcsPiecesRow.loopsOut == Tryz.f5.resultTypes.toList.any (Tryz.prog.loopsFrom ·)) : Bool) = true := by kernel_rfl
theorem fact22_Pieces : ((Rows.funcsPiecesRow.plainKeys == Tryz.prog.plainKeys) : Bool) = true := by kernel_rfl
theorem fact23_Pieces : (Rows.funcsPiecesRow.shortTexts.isNone : Bool) = true := by kernel_rfl
theorem fact26_Pieces : ((Rows.funcsPiecesRow.lifted == Tryz.prog.liftsFinal) : Bool) = true := by kernel_rfl
theorem fact27_Pieces : ((Tryz.prog.make == some Rows.funcsPiecesRow.make) : Bool) = true := by kernel_rfl
theorem fact28_Pieces : ((Rows.funcsPiecesRow.kinds == (if Rows.funcsPiecesRow.domain.isEmpty then [] else Tryz.f5.params.toList.map fun t => match Tryz.prog.underlying t with | some (.int k) => some k | _ => none)) : Bool) = true := by kernel_rfl
theorem fact29_Pieces : ((Rows.funcsPiecesRow.pinned == Rows.funcsPiecesRow.pinnedBy) : Bool) = true := by kernel_rfl
theorem fact30_Pieces : ((Rows.funcsPiecesRow.veiled == (Tryz.f5.params.toList ++ Rows.funcsPiecesSpec.plain.varTypes Tryz.prog ++ Tryz.f5.resultTypes.toList).any (Tryz.prog.veiledRec ·)) : Bool) = true := by kernel_rfl
theorem fact31_Pieces : (Rows.funcsPiecesRow.veiledFits Tryz.prog Tryz.f5.params.toList (Tryz.f5.params.toList ++ Rows.funcsPiecesSpec.plain.varTypes Tryz.prog ++ Tryz.f5.resultTypes.toList) : Bool) = true := by kernel_rfl
end Go.Proofs.YtdmbppgogdkpdaaGreatDoor
