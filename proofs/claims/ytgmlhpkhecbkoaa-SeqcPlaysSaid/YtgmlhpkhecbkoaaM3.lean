/-
  How a slice of structs among the arguments of a law is opened: deeds. No condition.
-/
import Derived.Test.YtgmlhpkhecbkoaaM2
import Derived.Test.YtgmlhpkhecbkoaaE1
import Derived.Deep.Strs
namespace Go.Proofs.Ytgmlhpkhecbkoaa
open Go.RowKit Go.ChangeShapes Go.WideShapes Go.ChangeAt Go.Joins Go.Deep

/-- A slice of things of k cells each, that can be read; its block is tagged t. -/
def ManyR {α : Type} (f : α → List Value) (k : Nat) (w : World) (own : Tags) (t : Nat) (A : Option Addr) (l : List α) : Prop :=
  l ≠ [] → ∃ b off, A = some ⟨b, off, none⟩ ∧ own b = t ∧ b < w.heap.size ∧ ∀ i (h : i < l.length), ∀ j v, (f l[i])[j]? = some v → w.cell? ⟨b, off + i * k + j, none⟩ = some v
theorem ManyR.keep {α : Type} {f : α → List Value} {k : Nat} {w w' : World} {own own' : Tags} {t : Nat} {A : Option Addr} {l : List α} (h : ManyR f k w own t A l) (hs : w.heap.size ≤ w'.heap.size) (hk : Same t own w own' w') : ManyR f k w' own' t A l := fun hl => by
  obtain ⟨b, off, hA, ho, hb, hc⟩ := h hl
  obtain ⟨k1, k2⟩ := hk b hb ho
  refine ⟨b, off, hA, k2, Nat.lt_of_lt_of_le hb hs, fun i hi j v hv => ?_⟩
  rw [World.cell?_of_block (w := w) (a := ⟨b, off + i * k + j, none⟩) k1]
  exact hc i hi j v hv

section
variable {H : Type} {enc : TypeId × Value → H} {w : World} {base : Nat} {spare : Nat → Bool} {held : Bool}
set_option maxRecDepth 100000 in
theorem open_many {α : Type} [Inhabited α] {f : α → List Value} {k : Nat} {T E : TypeId} (hT : Try.prog.underlying T = some (.slice E)) (hE : Try.prog.cellsOf E = k) (hk : 0 < k) {Good : α → Prop}
    (hf0 : ∀ z, (f z).length = k)
    (hf : ∀ (fuel : Nat) (cs : List Value) (x : DataW H × List MemPlace), DataW.trod enc Try.prog w 0 (fun _ => true) held fuel E cs = some x → ∃ z, cs = f z ∧ Good z)
    {r : Reach} {b0 : Nat} {v : Value} {d : DataW H} {p : List MemPlace} (hv : Value.okWide Try.prog w r b0 T v) (h : DataW.Trod enc Try.prog w 0 (fun _ => true) held T v d p) :
    ∃ A n c l, v = .slice A n c ∧ l.length = n ∧ n ≤ maxLen ∧ ManyR f k w (fun _ => 0) 0 A l ∧ ∀ z ∈ l, Good z := by
  obtain ⟨A, n, c, rfl⟩ := okWide_slice hT hv
  obtain ⟨fuel, hfu⟩ := h
  rcases open_slice hT hfu with ⟨hcs, _⟩ | ⟨a, len, cap, m, kk, D, Pl, hcs, hb, hl, hm, hmm, hx, hi⟩
  · simp [Value.cells] at hcs
    obtain ⟨rfl, rfl, rfl⟩ := hcs
    exact ⟨none, 0, 0, [], rfl, rfl, Nat.zero_le _, fun e => absurd rfl e, by simp⟩
  · simp [Value.cells] at hcs
    obtain ⟨rfl, rfl, rfl⟩ := hcs
    simp only [if_true] at hmm
    have key : ∀ i, i < n → ∃ z : α, (∀ j v, (f z)[j]? = some v → w.cell? ((a.add (i * k)).add j) = some v) ∧ Good z := by
      intro i hin
      obtain ⟨cs', hc, ht⟩ := hi i (by omega)
      rw [hE] at hc
      obtain ⟨_, hlen, hat⟩ := World.cells?_some hc
      obtain ⟨z, rfl, gz⟩ := hf _ _ _ ht
      refine ⟨z, fun j v hj => ?_, gz⟩
      obtain ⟨hj1, hj2⟩ := List.getElem?_eq_some_iff.1 hj
      have := hat j (by rw [hf0] at hj1; exact hj1)
      rw [this]
      simp [hj]
    obtain ⟨g, hg⟩ : ∃ g : Nat → α, ∀ i, i < n → (∀ j v, (f (g i))[j]? = some v → w.cell? ((a.add (i * k)).add j) = some v) ∧ Good (g i) :=
      ⟨fun i => if h : i < n then (key i h).choose else default, fun i h => by simp only [dif_pos h]; exact (key i h).choose_spec⟩
    refine ⟨some a, n, c, (List.range n).map g, rfl, by simp, Nat.le_trans hl hm, fun hne => ?_, ?_⟩
    · have hn0 : 0 < n := by
        rcases Nat.eq_zero_or_pos n with h0 | h0
        · subst h0; exact absurd rfl hne
        · exact h0
      have hk0 : 0 < (f (g 0)).length := by rw [hf0]; exact hk
      have h0 := (hg 0 hn0).1 0 (f (g 0))[0] (List.getElem?_eq_getElem hk0)
      simp only [Nat.zero_mul, Addr.add, if_true] at h0
      have hsp : a.spot = none := spot_none h0
      refine ⟨a.block, a.off, ?_, rfl, World.block_lt_of_cell? w _ h0, fun i hi' j v hj => ?_⟩
      · obtain ⟨b, o, s⟩ := a; simp only at hsp; rw [hsp]
      · have hin : i < n := by simpa using hi'
        simp only [List.getElem_map, List.getElem_range] at hj
        have := (hg i hin).1 j v hj
        rw [add_off hsp, add_off rfl] at this
        exact this
    · intro z hz
      obtain ⟨i, hi', rfl⟩ := List.mem_map.1 hz
      exact (hg i (List.mem_range.1 hi')).2
end

def deedCells (d : Deed) : List Value := [.int .i64 d.kind, .int .i64 d.behind.1, .int .i64 d.behind.2, .int .i64 d.id.1, .int .i64 d.id.2]
instance : Inhabited Deed := ⟨⟨0, (0, 0), (0, 0)⟩⟩
theorem Try.cells60 : Try.prog.cellsOf 60 = 5 := by kernel_rfl
theorem five_of {l : List Value} (h : l.length = 5) : ∃ a b c d e, l = [a, b, c, d, e] := by
  match l, h with
  | [a, b, c, d, e], _ => exact ⟨a, b, c, d, e, rfl⟩
section
variable {H : Type} {enc : TypeId × Value → H} {w : World} {base : Nat} {spare : Nat → Bool} {held : Bool}
set_option maxRecDepth 100000 in
theorem trod_deed {fuel : Nat} {cs : List Value} {x : DataW H × List MemPlace} (h : DataW.trod enc Try.prog w base spare held fuel 60 cs = some x) : ∃ z : Deed, cs = deedCells z ∧ Fits z.kind := by
  obtain ⟨y0, y1, y2, n, _, hl, h0, h1, h2⟩ := trod_struct3 Try.underlying60 h
  rw [Try.cells60] at hl
  obtain ⟨c0, c1, c2, c3, c4, rfl⟩ := five_of hl
  simp only [Try.cells3, Try.cells24, List.drop_zero, List.take_succ_cons, List.take_zero, List.drop_succ_cons] at h0 h1 h2
  obtain ⟨a, e0, _, wa⟩ := DataW.trod_int Try.underlying3 h0
  obtain ⟨b, c, e1, _⟩ := trod_id h1
  obtain ⟨d, e, e2, _⟩ := trod_id h2
  cases e0
  cases e1
  cases e2
  exact ⟨⟨a, (b, c), (d, e)⟩, rfl, fits_of_wf wa⟩
set_option maxRecDepth 100000 in
theorem open_deeds {r : Reach} {b0 : Nat} {v : Value} {d : DataW H} {p : List MemPlace} (hv : Value.okWide Try.prog w r b0 57 v) (h : DataW.Trod enc Try.prog w 0 (fun _ => true) held 57 v d p) :
    ∃ A n c l, v = .slice A n c ∧ l.length = n ∧ n ≤ maxLen ∧ ManyR deedCells 5 w (fun _ => 0) 0 A l ∧ ∀ z ∈ l, Fits z.kind :=
  open_many Try.underlying57 Try.cells60 (by omega) (fun _ => rfl) (fun _ _ _ h => trod_deed h) hv h
end
end Go.Proofs.Ytgmlhpkhecbkoaa
