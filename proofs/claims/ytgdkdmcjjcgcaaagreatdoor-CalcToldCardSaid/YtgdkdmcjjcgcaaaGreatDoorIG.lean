/-
  Closed facts of the card of CalcTold. No condition.
-/
import Derived.Test.YtgdkdmcjjcgcaaaGreatDoorCards
import Derived.SevenTiedAt
import Derived.ProofKit
set_option linter.unusedSectionVars false
namespace Go.Proofs.YtgdkdmcjjcgcaaaGreatDoor
theorem looks_P : true = Tryz.prog.looks [] := by kernel_rfl
theorem goes_none {P : Program} (h : (P.funcs.any Func.goes) = false) (f : FuncId) : P.goes f = false := by
  have hall : ∀ g : Nat, (P.funcs[g]?).any Func.goes = false := fun g => by
    cases hg : P.funcs[g]? with
    | none => rfl
    | some fn =>
      obtain ⟨hi, he⟩ := Array.getElem?_eq_some_iff.1 hg
      cases hb : fn.goes with
      | false => exact hb
      | true => rw [Array.any_eq_true.2 ⟨g, hi, by rw [he]; exact hb⟩] at h; cases h
  unfold Program.goes
  rw [h, Bool.and_false, Bool.or_false, List.any_eq_false]
  intro g _
  rw [hall g]
  exact Bool.false_ne_true
theorem goesBy_none {P : Program} (h : (P.funcs.any Func.goes) = false) (c : OpenClaim) : false = c.goesBy P := by
  have hg := goes_none h
  have h1 : P.goesFrom c.func = false := by
    unfold Program.goesFrom
    cases P.funcNamed c.func with
    | none => rfl
    | some f => exact hg f
  have h2 : (P.inits.toList.any P.goes) = false := by
    rw [List.any_eq_false]
    intro f _
    rw [hg f]
    exact Bool.false_ne_true
  unfold OpenClaim.goesBy Program.goesAt
  rw [h1, h2]
  cases c.start <;> rfl
theorem nogo_P : (Tryz.prog.funcs.any Func.goes) = false := by kernel_rfl
theorem goes_P : false = Rows.calcToldRow.goesBy Tryz.prog := goesBy_none nogo_P _
theorem text_P : Rows.calcToldRow.wfByText (OpenSpec.ofChange Rows.calcToldSpec) = true := by kernel_rfl
theorem main_P : Tryz.prog.mainIs = some (true, "f67bf4999c92053e5dd81b5fdbb60e508d2a49681977b5e0dabe2f5e6e5fb080".toList) := by kernel_rfl
theorem named_P : Tryz.prog.funcNamed "counterpane/counterpanelaw24.CalcTold" = some 3 := by kernel_rfl
theorem inst_P : Tryz.f3.isInstance Tryz.prog Rows.calcToldRow.origin Rows.calcToldRow.targs := of_decide_eq_true (by kernel_rfl)
theorem wrap_P : Tryz.f3.isWrapper Tryz.prog Rows.calcToldRow.wrapper Rows.calcToldRow.mainSum := by unfold Func.isWrapper; first | (rw [if_pos (by decide +kernel)]; kernel_rfl) | (rw [if_neg (by decide +kernel)]; exact ⟨rfl, rfl⟩)
theorem stands_P : ([25,5].all fun u => !Tryz.prog.wantsStandIn u) = true := by kernel_rfl
end Go.Proofs.YtgdkdmcjjcgcaaaGreatDoor
