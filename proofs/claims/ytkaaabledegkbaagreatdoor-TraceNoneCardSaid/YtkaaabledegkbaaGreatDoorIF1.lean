/-
  Closed facts of the row of TraceNone. No condition.
-/
import Derived.Test.YtkaaabledegkbaaGreatDoorRows
import Derived.JoinedOf
import Derived.KernelRfl
namespace Go.Proofs.YtkaaabledegkbaaGreatDoor
theorem fact16 : ((Rows.traceNoneRow.loops == (Tryz.f3.params.toList ++ Rows.traceNoneSpec.plain.varTypes Tryz.prog).any (Tryz.prog.loopsFrom ·)) : Bool) = true := by kernel_rfl
theorem fact17 : ((Rows.traceNoneRow.wideKeys == (Tryz.f3.params.toList ++ Rows.traceNoneSpec.plain.varTypes Tryz.prog ++ Tryz.f3.resultTypes.toList).any (Tryz.prog.wideKeysFrom ·)) : Bool) = true := by kernel_rfl
theorem fact18 : (Rows.traceNoneSpec.vars.all (Tryz.prog.varReadable ·) : Bool) = true := by kernel_rfl
theorem fact19 : (Tryz.f3.resultTypes.all (fun t => Tryz.prog.readableRec t && decide (t < Tryz.prog.types.size)) : Bool) = true := by kernel_rfl
theorem fact20 : ((Rows.traceNoneRow.ifacesOut == Tryz.f3.resultTypes.toList.any (Tryz.prog.ifacesRec ·)) : Bool) = true := by kernel_rfl
theorem fact21 : ((Rows.traceNoneRow.loopsOut == Tryz.f3.resultTypes.toList.any (Tryz.prog.loopsFrom ·)) : Bool) = true := by kernel_rfl
theorem fact22 : ((Rows.traceNoneRow.plainKeys == Tryz.prog.plainKeys) : Bool) = true := by kernel_rfl
theorem fact23 : (Rows.traceNoneRow.shortTexts.isNone : Bool) = true := by kernel_rfl
theorem fact24 : (Tryz.prog.stopsHeard : Bool) = true := by kernel_rfl
theorem fact25 : (Tryz.prog.mayEnter : Bool) = true := by kernel_rfl
theorem fact26 : ((Rows.traceNoneRow.lifted == Tryz.prog.liftsFinal) : Bool) = true := by kernel_rfl
theorem fact27 : ((Tryz.prog.make == some Rows.traceNoneRow.make) : Bool) = true := by kernel_rfl
theorem fact28 : ((Rows.traceNoneRow.kinds == (if Rows.traceNoneRow.domain.isEmpty then [] else Tryz.f3.params.toList.map fun t => match Tryz.prog.underlying t with | some (.int k) => some k | _ => none)) : Bool) = true := by kernel_rfl
theorem fact29 : ((Rows.traceNoneRow.pinned == Rows.traceNoneRow.pinnedBy) : Bool) = true := by kernel_rfl
theorem fact30 : ((Rows.traceNoneRow.veiled == (Tryz.f3.params.toList ++ Rows.traceNoneSpec.plain.varTypes Tryz.prog ++ Tryz.f3.resultTypes.toList).any (Tryz.prog.veiledRec ·)) : Bool) = true := by kernel_rfl
theorem fact31 : (Rows.traceNoneRow.veiledFits Tryz.prog Tryz.f3.params.toList (Tryz.f3.params.toList ++ Rows.traceNoneSpec.plain.varTypes Tryz.prog ++ Tryz.f3.resultTypes.toList) : Bool) = true := by kernel_rfl
end Go.Proofs.YtkaaabledegkbaaGreatDoor
