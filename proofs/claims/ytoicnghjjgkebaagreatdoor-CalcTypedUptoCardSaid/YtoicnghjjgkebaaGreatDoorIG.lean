/-
  Closed facts of the card of CalcTyped (at bulk at most 1048576). No condition.
-/
import Derived.Test.YtoicnghjjgkebaaGreatDoorCards
import Derived.SevenTiedAt
import Derived.ProofKit
set_option linter.unusedSectionVars false
set_option linter.unusedSimpArgs false
set_option linter.unusedVariables false
set_option linter.unnecessarySimpa false
namespace Go.Proofs.YtoicnghjjgkebaaGreatDoor
theorem looks_P : true = Tryz.prog.looks [] := by kernel_rfl
theorem goes_none {P : Program} (h : (P.funcs.any Func.goes) = false) (f : FuncId) : P.goes f = false := by
  have hall : ∀ g : Nat, (P.funcs[g]?).any Func.goes = false := fun g => by
    cases hg : P.funcs[g]? with
    | none => rfl
    | some fn =>
      obtain ⟨hi, he⟩ := Array.getElem?_eq_some_iff.1 hg
      cases hb : fn.goes with
      | false => exact hb
      | true => rw [Array.any_eq_true.2 ⟨g, hi, by rw [he]; exact hb⟩] at h; cases h
  unfold Program.goes
  rw [h, Bool.and_false, Bool.or_false, List.any_eq_false]
  intro g _
  rw [hall g]
  exact Bool.false_ne_true
theorem goesBy_none {P : Program} (h : (P.funcs.any Func.goes) = false) (c : OpenClaim) : false = c.goesBy P := by
  have hg := goes_none h
  have h1 : P.goesFrom c.func = false := by
    unfold Program.goesFrom
    cases P.funcNamed c.func with
    | none => rfl
    | some f => exact hg f
  have h2 : (P.inits.toList.any P.goes) = false := by
    rw [List.any_eq_false]
    intro f _
    rw [hg f]
    exact Bool.false_ne_true
  unfold OpenClaim.goesBy Program.goesAt
  rw [h1, h2]
  cases c.start <;> rfl
theorem nogo_P : (Tryz.prog.funcs.any Func.goes) = false := by kernel_rfl
theorem goes_P : false = Rows.calcTypedUptoRow.goesBy Tryz.prog := goesBy_none nogo_P _
theorem text_P : Rows.calcTypedUptoRow.wfByText (Rows.OpenSpec.upto Rows.calcTypedSpec) = true := by kernel_rfl
theorem main_P : Tryz.prog.mainIs = some (true, "f31ed187aa87f805e55ba4ea3d1eb9c73e78d4aa1a0881c5523d664484a021f5".toList) := by kernel_rfl
theorem named_P : Tryz.prog.funcNamed "counterpane/counterpanelaw24.CalcTyped" = some 3 := by kernel_rfl
theorem inst_P : Tryz.f3.isInstance Tryz.prog Rows.calcTypedUptoRow.origin Rows.calcTypedUptoRow.targs := of_decide_eq_true (by kernel_rfl)
theorem wrap_P : Tryz.f3.isWrapper Tryz.prog Rows.calcTypedUptoRow.wrapper Rows.calcTypedUptoRow.mainSum := by unfold Func.isWrapper; first | (rw [if_pos (by decide +kernel)]; kernel_rfl) | (rw [if_neg (by decide +kernel)]; exact ⟨rfl, rfl⟩)
theorem stands_P : ([24].all fun u => !Tryz.prog.wantsStandIn u) = true := by kernel_rfl
end Go.Proofs.YtoicnghjjgkebaaGreatDoor
