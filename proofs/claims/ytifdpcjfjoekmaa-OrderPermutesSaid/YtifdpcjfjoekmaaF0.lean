/-
  Opening of an argument: []ref.Key. No condition.
-/
import Derived.Test.YtifdpcjfjoekmaaE0
namespace Go.Proofs.Ytifdpcjfjoekmaa
open Go.RowKit Go.ChangeShapes Go.WideShapes Go.ChangeAt Go.Joins Go.Deep

section
variable {H : Type} {enc : TypeId × Value → H} {w : World} {base : Nat} {spare : Nat → Bool} {held : Bool}
set_option maxRecDepth 100000 in
theorem trod_key {fuel : Nat} {cs : List Value} {x : DataW H × List MemPlace} (h : DataW.trod enc Try.prog w base spare held fuel 36 cs = some x) : ∃ z : KeyD, cs = keyCells z ∧ True := by
  obtain ⟨y0, y1, n, _, hl, h0, h1⟩ := trod_struct2 Try.underlying36 h
  rw [Try.cells36] at hl
  obtain ⟨c0, c1, rfl⟩ := two_of hl
  simp only [Try.cells3, Try.cells4, List.drop_zero, List.take_succ_cons, List.take_zero, List.drop_succ_cons] at h0 h1
  obtain ⟨a, e0, _, _⟩ := DataW.trod_int Try.underlying3 h0
  obtain ⟨b, e1, _⟩ := DataW.trod_bool Try.underlying4 h1
  cases e0
  cases e1
  exact ⟨⟨a, b⟩, rfl, trivial⟩
set_option maxRecDepth 100000 in
theorem open_keys {r : Go.Reach} {b0 : Nat} {v : Value} {d : DataW H} {p : List MemPlace} (hv : Value.okWide Try.prog w r b0 23 v) (h : DataW.Trod enc Try.prog w 0 (fun _ => true) held 23 v d p) :
    ∃ A n c l, v = .slice A n c ∧ l.length = n ∧ n ≤ maxLen ∧ ManyR keyCells 2 w A l := by
  obtain ⟨A, n, c, rfl⟩ := okWide_slice Try.underlying23 hv
  obtain ⟨fuel, hfu⟩ := h
  obtain ⟨A', n', c', l, e, hl, hm, hR, _⟩ := cells_many (f := keyCells) (Good := fun _ => True) Try.underlying23 Try.cells36 (by omega) (fun _ => rfl) (fun _ _ _ h => trod_key h) hfu
  simp [Value.cells] at e
  obtain ⟨rfl, rfl, rfl⟩ := e
  exact ⟨A, n, c, l, rfl, hl, hm, hR⟩
end
end Go.Proofs.Ytifdpcjfjoekmaa
