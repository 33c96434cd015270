/-
  Closed facts of the row of EvalFinal. No condition.
-/
import Derived.Test.YtccnkkffeokgcaaGreatDoorRows
import Derived.JoinedOf
import Derived.KernelRfl
namespace Go.Proofs.YtccnkkffeokgcaaGreatDoor
theorem fact16 : ((Rows.evalFinalRow.loops == (Tryz.f3.params.toList ++ Rows.evalFinalSpec.plain.varTypes Tryz.prog).any (Tryz.prog.loopsFrom ·)) : Bool) = true := by kernel_rfl
theorem fact17 : ((Rows.evalFinalRow.wideKeys == (Tryz.f3.params.toList ++ Rows.evalFinalSpec.plain.varTypes Tryz.prog ++ Tryz.f3.resultTypes.toList).any (Tryz.prog.wideKeysFrom ·)) : Bool) = true := by kernel_rfl
theorem fact18 : (Rows.evalFinalSpec.vars.all (Tryz.prog.varReadable ·) : Bool) = true := by kernel_rfl
theorem fact19 : (Tryz.f3.resultTypes.all (fun t => Tryz.prog.readableRec t && decide (t < Tryz.prog.types.size)) : Bool) = true := by kernel_rfl
theorem fact20 : ((Rows.evalFinalRow.ifacesOut == Tryz.f3.resultTypes.toList.any (Tryz.prog.ifacesRec ·)) : Bool) = true := by kernel_rfl
theorem fact21 : ((Rows.evalFinalRow.loopsOut == Tryz.f3.resultTypes.toList.any (Tryz.prog.loopsFrom ·)) : Bool) = true := by kernel_rfl
theorem fact22 : ((Rows.evalFinalRow.plainKeys == Tryz.prog.plainKeys) : Bool) = true := by kernel_rfl
theorem fact23 : (Rows.evalFinalRow.shortTexts.isNone : Bool) = true := by kernel_rfl
theorem fact24 : (Tryz.prog.stopsHeard : Bool) = true := by kernel_rfl
theorem fact25 : (Tryz.prog.mayEnter : Bool) = true := by kernel_rfl
theorem fact26 : ((Rows.evalFinalRow.lifted == Tryz.prog.liftsFinal) : Bool) = true := by kernel_rfl
theorem fact27 : ((Tryz.prog.make == some Rows.evalFinalRow.make) : Bool) = true := by kernel_rfl
theorem fact28 : ((Rows.evalFinalRow.kinds == (if Rows.evalFinalRow.domain.isEmpty then [] else Tryz.f3.params.toList.map fun t => match Tryz.prog.underlying t with | some (.int k) => some k | _ => none)) : Bool) = true := by kernel_rfl
theorem fact29 : ((Rows.evalFinalRow.pinned == Rows.evalFinalRow.pinnedBy) : Bool) = true := by kernel_rfl
theorem fact30 : ((Rows.evalFinalRow.veiled == (Tryz.f3.params.toList ++ Rows.evalFinalSpec.plain.varTypes Tryz.prog ++ Tryz.f3.resultTypes.toList).any (Tryz.prog.veiledRec ·)) : Bool) = true := by kernel_rfl
theorem fact31 : (Rows.evalFinalRow.veiledFits Tryz.prog Tryz.f3.params.toList (Tryz.f3.params.toList ++ Rows.evalFinalSpec.plain.varTypes Tryz.prog ++ Tryz.f3.resultTypes.toList) : Bool) = true := by kernel_rfl
end Go.Proofs.YtccnkkffeokgcaaGreatDoor
