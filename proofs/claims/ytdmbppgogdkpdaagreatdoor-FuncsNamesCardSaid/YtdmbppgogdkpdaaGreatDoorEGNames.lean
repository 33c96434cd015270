/-
  Closed facts of the card of FuncsNames. No condition.
-/
import Derived.Test.YtdmbppgogdkpdaaGreatDoorEJNames
import Derived.Test.YtdmbppgogdkpdaaGreatDoorCards
import Derived.SevenTiedAt
import Derived.ProofKit
namespace Go.Proofs.YtdmbppgogdkpdaaGreatDoor
theorem looks_Names : false = Tryz.prog.looks [] := by kernel_rfl
theorem goes_Names : false = Rows.funcsNamesRow.goesBy Tryz.prog := by kernel_rfl
theorem text_Names : Rows.funcsNamesRow.wfByText (OpenSpec.ofChange Rows.funcsNamesSpec) = true := by kernel_rfl
theorem main_Names : Tryz.prog.mainIs = some (true, "d3f1a7cf53d8d0e1a72e3dfc97abab47d82ba59c89d2d6b194cdfcd441398c7b".toList) := by kernel_rfl
theorem named_Names : Tryz.prog.funcNamed "counterpane/counterpanelaw16.FuncsNames" = some 3 := by kernel_rfl
theorem inst_Names : Tryz.f3.isInstance Tryz.prog Rows.funcsNamesRow.origin Rows.funcsNamesRow.targs := of_decide_eq_true (by kernel_rfl)
theorem wrap_Names : Tryz.f3.isWrapper Tryz.prog Rows.funcsNamesRow.wrapper Rows.funcsNamesRow.mainSum := by unfold Func.isWrapper; first | (rw [if_pos (by decide +kernel)]; kernel_rfl) | (rw [if_neg (by decide +kernel)]; exact ⟨rfl, rfl⟩)
theorem stands_Names : ([9].all fun u => !Tryz.prog.wantsStandIn u) = true := by kernel_rfl
end Go.Proofs.YtdmbppgogdkpdaaGreatDoor
