/-
  Closed facts of the card of FuncsPieces. No condition.
-/
import Derived.Test.YtdmbppgogdkpdaaGreatDoorEJPieces
import Derived.Test.YtdmbppgogdkpdaaGreatDoorCards
import Derived.SevenTiedAt
import Derived.ProofKit
namespace Go.Proofs.YtdmbppgogdkpdaaGreatDoor
theorem looks_Pieces : false = Tryz.prog.looks [] := by kernel_rfl
theorem goes_none {P : Program} (h : (P.funcs.any Func.goes) = false) (f : FuncId) : P.goes f = false := by
  have hall : ∀ g : Nat, (P.funcs[g]?).any Func.goes = false := fun g => by
    cases hg : P.funcs[g]? with
    | none => rfl
    | some fn =>
      obtain ⟨hi, he⟩ := Array.getElem?_eq_some_iff.1 hg
      cases hb : fn.goes with
      | false => exact hb
      | true => rw [Array.any_eq_true.2 ⟨g, hi, by rw [he]; exact hb⟩] at h; cases h
  unfold Program.goes
  rw [h, Bool.and_false, Bool.or_false, List.any_eq_false]
  intro g _
  rw [hall g]
  exact Bool.false_ne_true
theorem goesBy_none {P : Program} (h : (P.funcs.any Func.goes) = false) (c : OpenClaim) : false = c.goesBy P := by
  have hg := goes_none h
  have h1 : P.goesFrom c.func = false := by
    unfold Program.goesFrom
    cases P.funcNamed c.func with
    | none => rfl
    | some f => exact hg f
  have h2 : (P.inits.toList.any P.goes) = false := by
    rw [List.any_eq_false]
    intro f _
    rw [hg f]
    exact Bool.false_ne_true
  unfold OpenClaim.goesBy Program.goesAt
  rw [h1, h2]
  cases c.start <;> rfl
theorem nogo_P : (Tryz.prog.funcs.any Func.goes) = false := by kernel_rfl
theorem goes_Pieces : false = Rows.funcsPiecesRow.goesBy Tryz.prog := goesBy_none nogo_P _
theorem text_Pieces : Rows.funcsPiecesRow.wfByText (OpenSpec.ofChange Rows.funcsPiecesSpec) = true := by kernel_rfl
theorem main_Pieces : Tryz.prog.mainIs = some (true, "d3f1a7cf53d8d0e1a72e3dfc97abab47d82ba59c89d2d6b194cdfcd441398c7b".toList) := by kernel_rfl
theorem named_Pieces : Tryz.prog.funcNamed "counterpane/counterpanelaw16.FuncsPieces" = some 5 := by kernel_rfl
theorem inst_Pieces : Tryz.f5.isInstance Tryz.prog Rows.funcsPiecesRow.origin Rows.funcsPiecesRow.targs := of_decide_eq_true (by kernel_rfl)
theorem wrap_Pieces : Tryz.f5.isWrapper Tryz.prog Rows.funcsPiecesRow.wrapper Rows.funcsPiecesRow.mainSum := by unfold Func.isWrapper; first | (rw [if_pos (by decide +kernel)]; kernel_rfl) | (rw [if_neg (by decide +kernel)]; exact ⟨rfl, rfl⟩)
theorem stands_Pieces : ([9, 9].all fun u => !Tryz.prog.wantsStandIn u) = true := by kernel_rfl
end Go.Proofs.YtdmbppgogdkpdaaGreatDoor
