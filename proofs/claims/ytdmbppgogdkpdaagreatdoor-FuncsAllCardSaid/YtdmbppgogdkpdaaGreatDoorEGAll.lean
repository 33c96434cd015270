/-
  Closed facts of the card of FuncsAll. No condition.
-/
import Derived.Test.YtdmbppgogdkpdaaGreatDoorEJAll
import Derived.Test.YtdmbppgogdkpdaaGreatDoorCards
import Derived.SevenTiedAt
import Derived.ProofKit
namespace Go.Proofs.YtdmbppgogdkpdaaGreatDoor
theorem looks_All : false = Tryz.prog.looks [] := by kernel_rfl
theorem goes_All : false = Rows.funcsAllRow.goesBy Tryz.prog := by kernel_rfl
theorem text_All : Rows.funcsAllRow.wfByText (OpenSpec.ofChange Rows.funcsAllSpec) = true := by kernel_rfl
theorem main_All : Tryz.prog.mainIs = some (true, "d3f1a7cf53d8d0e1a72e3dfc97abab47d82ba59c89d2d6b194cdfcd441398c7b".toList) := by kernel_rfl
theorem named_All : Tryz.prog.funcNamed "counterpane/counterpanelaw16.FuncsAll" = some 6 := by kernel_rfl
theorem inst_All : Tryz.f6.isInstance Tryz.prog Rows.funcsAllRow.origin Rows.funcsAllRow.targs := of_decide_eq_true (by kernel_rfl)
theorem wrap_All : Tryz.f6.isWrapper Tryz.prog Rows.funcsAllRow.wrapper Rows.funcsAllRow.mainSum := by unfold Func.isWrapper; first | (rw [if_pos (by decide +kernel)]; kernel_rfl) | (rw [if_neg (by decide +kernel)]; exact ⟨rfl, rfl⟩)
theorem stands_All : ([5].all fun u => !Tryz.prog.wantsStandIn u) = true := by kernel_rfl
end Go.Proofs.YtdmbppgogdkpdaaGreatDoor
