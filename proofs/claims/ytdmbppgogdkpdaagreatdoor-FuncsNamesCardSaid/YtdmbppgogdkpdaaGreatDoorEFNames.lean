/-
  Closed facts of the row of FuncsNames. No condition.
-/
import Derived.Test.YtdmbppgogdkpdaaGreatDoorEP
namespace Go.Proofs.YtdmbppgogdkpdaaGreatDoor
theorem fact0_Names : (Rows.funcsNamesRow.wf (OpenSpec.ofChange Rows.funcsNamesSpec) : Bool) = true := by kernel_rfl
theorem fact3_Names : (Tryz.f3.params.all (Tryz.prog.readableRec ·) : Bool) = true := by kernel_rfl
theorem fact4_Names : (namedTie Tryz.prog Rows.funcsNamesRow.named Rows.funcsNamesSpec.vars : Bool) = true := by kernel_rfl
theorem fact5_Names : ((Rows.funcsNamesRow.stops == []) : Bool) = true := by kernel_rfl
theorem fact7_Names : ((Rows.funcsNamesRow.knobs == []) : Bool) = true := by kernel_rfl
theorem fact9_Names : ((Rows.funcsNamesRow.inPlace == Tryz.prog.inPlace 3) : Bool) = true := by kernel_rfl
theorem fact10_Names : ((Rows.funcsNamesRow.unfollowed == Tryz.prog.unfollowed 3) : Bool) = true := by kernel_rfl
theorem fact11_Names : ((Rows.funcsNamesRow.recurses == Tryz.prog.recurses 3) : Bool) = true := by kernel_rfl
theorem fact12_Names : ((Rows.funcsNamesRow.named == Tryz.prog.varsNamed 3) : Bool) = true := by kernel_rfl
theorem fact13_Names : ((Rows.funcsNamesRow.maps == (Tryz.f3.params.toList ++ Rows.funcsNamesSpec.plain.varTypes Tryz.prog).any (Tryz.prog.mapsRec ·)) : Bool) = true := by kernel_rfl
theorem fact14_Names : ((Rows.funcsNamesRow.ifaces == (Tryz.f3.params.toList ++ Rows.funcsNamesSpec.plain.varTypes Tryz.prog).any (Tryz.prog.ifacesRec ·)) : Bool) = true := by kernel_rfl
theorem fact15_Names : ((Rows.funcsNamesRow.mapsOut == Tryz.prog.mapsAmong Tryz.f3.resultTypes.toList) : Bool) = true := by kernel_rfl
theorem fact16_Names : ((Rows.funcsNamesRow.loops == (Tryz.f3.params.toList ++ Rows.funcsNamesSpec.plain.varTypes Tryz.prog).any (Tryz.prog.loopsFrom ·)) : Bool) = true := by kernel_rfl
theorem fact17_Names : ((Rows.funcsNamesRow.wideKeys == (Tryz.f3.params.toList ++ Rows.funcsNamesSpec.plain.varTypes Tryz.prog ++ Tryz.f3.resultTypes.toList).any (Tryz.prog.wideKeysFrom ·)) : Bool) = true := by kernel_rfl
theorem fact18_Names : (Rows.funcsNamesSpec.vars.all (Tryz.prog.varReadable ·) : Bool) = true := by kernel_rfl
theorem fact19_Names : (Tryz.f3.resultTypes.all (fun t => Tryz.prog.readableRec t && decide (t < Tryz.prog.types.size)) : Bool) = true := by kernel_rfl
theorem fact20_Names : ((Rows.funcsNamesRow.ifacesOut == Tryz.f3.resultTypes.toList.any (Tryz.prog.ifacesRec ·)) : Bool) = true := by kernel_rfl
theorem fact21_Names : ((Rows.funcsNamesRow.loopsOut == Tryz.f3.resultTypes.toList.any (Tryz.prog.loopsFrom ·)) : Bool) = true := by kernel_rfl
theorem fact22_Names : ((Rows.funcsNamesRow.plainKeys == Tryz.prog.plainKeys) : Bool) = true := by kernel_rfl
theorem fact23_Names : (Rows.funcsNamesRow.shortTexts.isNone : Bool) = true := by kernel_rfl
theorem fact26_Names : ((Rows.funcsNamesRow.lifted == Tryz.prog.liftsFinal) : Bool) = true := by kernel_rfl
theorem fact27_Names : ((Tryz.prog.make == some Rows.funcsNamesRow.make) : Bool) = true := by kernel_rfl
theorem fact28_Names : ((Rows.funcsNamesRow.kinds == (if Rows.funcsNamesRow.domain.isEmpty then [] else Tryz.f3.params.toList.map fun t => match Tryz.prog.underlying t with | some (.int k) => some k | _ => none)) : Bool) = true := by kernel_rfl
theorem fact29_Names : ((Rows.funcsNamesRow.pinned == Rows.funcsNamesRow.pinnedBy) : Bool) = true := by kernel_rfl
theorem fact30_Names : ((Rows.funcsNamesRow.veiled == (Tryz.f3.params.toList ++ Rows.funcsNamesSpec.plain.varTypes Tryz.prog ++ Tryz.f3.resultTypes.toList).any (Tryz.prog.veiledRec ·)) : Bool) = true := by kernel_rfl
theorem fact31_Names : (Rows.funcsNamesRow.veiledFits Tryz.prog Tryz.f3.params.toList (Tryz.f3.params.toList ++ Rows.funcsNamesSpec.plain.varTypes Tryz.prog ++ Tryz.f3.resultTypes.toList) : Bool) = true := by kernel_rfl
end Go.Proofs.YtdmbppgogdkpdaaGreatDoor
