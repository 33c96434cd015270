/-
  Closed facts of the row of FuncsAll. No condition.
-/
import Derived.Test.YtdmbppgogdkpdaaGreatDoorEP
namespace Go.Proofs.YtdmbppgogdkpdaaGreatDoor
theorem fact0_All : (Rows.funcsAllRow.wf (OpenSpec.ofChange Rows.funcsAllSpec) : Bool) = true := by kernel_rfl
theorem fact3_All : (Tryz.f6.params.all (Tryz.prog.readableRec ·) : Bool) = true := by kernel_rfl
theorem fact4_All : (namedTie Tryz.prog Rows.funcsAllRow.named Rows.funcsAllSpec.vars : Bool) = true := by kernel_rfl
theorem fact5_All : ((Rows.funcsAllRow.stops == []) : Bool) = true := by kernel_rfl
theorem fact7_All : ((Rows.funcsAllRow.knobs == []) : Bool) = true := by kernel_rfl
theorem fact9_All : ((Rows.funcsAllRow.inPlace == Tryz.prog.inPlace 6) : Bool) = true := by kernel_rfl
theorem fact10_All : ((Rows.funcsAllRow.unfollowed == Tryz.prog.unfollowed 6) : Bool) = true := by kernel_rfl
theorem fact11_All : ((Rows.funcsAllRow.recurses == Tryz.prog.recurses 6) : Bool) = true := by kernel_rfl
theorem fact12_All : ((Rows.funcsAllRow.named == Tryz.prog.varsNamed 6) : Bool) = true := by kernel_rfl
theorem fact13_All : ((Rows.funcsAllRow.maps == (Tryz.f6.params.toList ++ Rows.funcsAllSpec.plain.varTypes Tryz.prog).any (Tryz.prog.mapsRec ·)) : Bool) = true := by kernel_rfl
theorem fact14_All : ((Rows.funcsAllRow.ifaces == (Tryz.f6.params.toList ++ Rows.funcsAllSpec.plain.varTypes Tryz.prog).any (Tryz.prog.ifacesRec ·)) : Bool) = true := by kernel_rfl
theorem fact15_All : ((Rows.funcsAllRow.mapsOut == Tryz.prog.mapsAmong Tryz.f6.resultTypes.toList) : Bool) = true := by kernel_rfl
theorem fact16_All : ((Rows.funcsAllRow.loops == (Tryz.f6.params.toList ++ Rows.funcsAllSpec.plain.varTypes Tryz.prog).any (Tryz.prog.loopsFrom ·)) : Bool) = true := by kernel_rfl
theorem fact17_All : ((Rows.funcsAllRow.wideKeys == (Tryz.f6.params.toList ++ Rows.funcsAllSpec.plain.varTypes Tryz.prog ++ Tryz.f6.resultTypes.toList).any (Tryz.prog.wideKeysFrom ·)) : Bool) = true := by kernel_rfl
theorem fact18_All : (Rows.funcsAllSpec.vars.all (Tryz.prog.varReadable ·) : Bool) = true := by kernel_rfl
theorem fact19_All : (Tryz.f6.resultTypes.all (fun t => Tryz.prog.readableRec t && decide (t < Tryz.prog.types.size)) : Bool) = true := by kernel_rfl
theorem fact20_All : ((Rows.funcsAllRow.ifacesOut == Tryz.f6.resultTypes.toList.any (Tryz.prog.ifacesRec ·)) : Bool) = true := by kernel_rfl
theorem fact21_All : ((Rows.funcsAllRow.loopsOut == Tryz.f6.resultTypes.toList.any (Tryz.prog.loopsFrom ·)) : Bool) = true := by kernel_rfl
theorem fact22_All : ((Rows.funcsAllRow.plainKeys == Tryz.prog.plainKeys) : Bool) = true := by kernel_rfl
theorem fact23_All : (Rows.funcsAllRow.shortTexts.isNone : Bool) = true := by kernel_rfl
theorem fact26_All : ((Rows.funcsAllRow.lifted == Tryz.prog.liftsFinal) : Bool) = true := by kernel_rfl
theorem fact27_All : ((Tryz.prog.make == some Rows.funcsAllRow.make) : Bool) = true := by kernel_rfl
theorem fact28_All : ((Rows.funcsAllRow.kinds == (if Rows.funcsAllRow.domain.isEmpty then [] else Tryz.f6.params.toList.map fun t => match Tryz.prog.underlying t with | some (.int k) => some k | _ => none)) : Bool) = true := by kernel_rfl
theorem fact29_All : ((Rows.funcsAllRow.pinned == Rows.funcsAllRow.pinnedBy) : Bool) = true := by kernel_rfl
theorem fact30_All : ((Rows.funcsAllRow.veiled == (Tryz.f6.params.toList ++ Rows.funcsAllSpec.plain.varTypes Tryz.prog ++ Tryz.f6.resultTypes.toList).any (Tryz.prog.veiledRec ·)) : Bool) = true := by kernel_rfl
theorem fact31_All : (Rows.funcsAllRow.veiledFits Tryz.prog Tryz.f6.params.toList (Tryz.f6.params.toList ++ Rows.funcsAllSpec.plain.varTypes Tryz.prog ++ Tryz.f6.resultTypes.toList) : Bool) = true := by kernel_rfl
end Go.Proofs.YtdmbppgogdkpdaaGreatDoor
