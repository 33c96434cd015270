/-
  Opening of an argument: api.Array. No condition.
-/
import Derived.Test.YtdmbppgogdkpdaaGreatDoorS19
import Derived.Test.YtdmbppgogdkpdaaGreatDoorRows
import Derived.ProofKit
import Derived.Lib.SmallJoins
import Derived.Deep.Slices
import Derived.Deep.Fields
import Derived.Deep.Strs
namespace Go.Proofs.YtdmbppgogdkpdaaGreatDoor
open Go.RowKit Go.ChangeShapes Go.WideShapes Go.ChangeAt Go.Joins Go.Deep

theorem Tryz.cells3 : Tryz.prog.cellsOf 3 = 1 := by kernel_rfl
theorem Tryz.cells4 : Tryz.prog.cellsOf 4 = 1 := by kernel_rfl
theorem Tryz.cells9 : Tryz.prog.cellsOf 9 = 1 := by kernel_rfl
theorem Tryz.cells26 : Tryz.prog.cellsOf 26 = 1 := by kernel_rfl
theorem Tryz.cells28 : Tryz.prog.cellsOf 28 = 3 := by kernel_rfl
theorem Tryz.cells39 : Tryz.prog.cellsOf 39 = 2 := by kernel_rfl
theorem Tryz.cells41 : Tryz.prog.cellsOf 41 = 6 := by kernel_rfl
theorem three_of {l : List Value} (h : l.length = 3) : ∃ a b c, l = [a, b, c] := by
  match l, h with
  | [a, b, c], _ => exact ⟨a, b, c, rfl⟩
theorem fits_of_wf {n : Int} (h : (Lit.int .i64 n).wf = true) : Fits n := by
  have h1 : IntKind.i64.min = -9223372036854775808 := rfl
  have h2 : IntKind.i64.max = 9223372036854775807 := rfl
  simp only [Lit.wf, Bool.and_eq_true, decide_eq_true_eq] at h
  unfold Fits
  omega
theorem two_of {l : List Value} (h : l.length = 2) : ∃ a b, l = [a, b] := by
  match l, h with
  | [a, b], _ => exact ⟨a, b, rfl⟩
theorem six_of {l : List Value} (h : l.length = 6) : ∃ a b c d e f, l = [a, b, c, d, e, f] := by
  match l, h with
  | [a, b, c, d, e, f], _ => exact ⟨a, b, c, d, e, f, rfl⟩
theorem add_off {a : Addr} {n : Nat} : a.spot = none → a.add n = ⟨a.block, a.off + n, none⟩ := by
  intro h
  obtain ⟨b, o, s⟩ := a
  simp only at h
  subst h
  unfold Addr.add; split <;> simp_all
theorem spot_none {w : World} {a : Addr} {v : Value} (h : w.cell? a = some v) : a.spot = none := by
  unfold World.cell? at h
  split at h
  · split at h
    · cases h
    · rename_i hs; simpa using hs
  · cases h
section
variable {H : Type} {enc : TypeId × Value → H} {w : World} {base : Nat} {spare : Nat → Bool} {held : Bool}
set_option maxRecDepth 100000 in
/-- A slice among cells. -/
theorem cells_many {α : Type} [Inhabited α] {f : α → List Value} {k : Nat} {T E : TypeId} (hT : Tryz.prog.underlying T = some (.slice E)) (hE : Tryz.prog.cellsOf E = k) (hk : 0 < k) {Good : α → Prop}
    (hf0 : ∀ z, (f z).length = k)
    (hf : ∀ (fuel : Nat) (cs : List Value) (x : DataW H × List MemPlace), DataW.trod enc Tryz.prog w 0 (fun _ => true) held fuel E cs = some x → ∃ z, cs = f z ∧ Good z)
    {fuel : Nat} {cs : List Value} {x : DataW H × List MemPlace} (h : DataW.trod enc Tryz.prog w 0 (fun _ => true) held fuel T cs = some x) :
    ∃ A n c l, cs = [.slice A n c] ∧ l.length = n ∧ n ≤ maxLen ∧ ManyR f k w A l ∧ ∀ z ∈ l, Good z := by
  rcases open_slice hT h with ⟨rfl, _⟩ | ⟨a, n, c, m, kk, D, Pl, rfl, hb, hl, hm, hmm, hx, hi⟩
  · exact ⟨none, 0, 0, [], rfl, rfl, Nat.zero_le _, fun e => absurd rfl e, by simp⟩
  · simp only [if_true] at hmm
    have key : ∀ i, i < n → ∃ z : α, (∀ j v, (f z)[j]? = some v → w.cell? ((a.add (i * k)).add j) = some v) ∧ Good z := by
      intro i hin
      obtain ⟨cs', hc, ht⟩ := hi i (by omega)
      rw [hE] at hc
      obtain ⟨_, hlen, hat⟩ := World.cells?_some hc
      obtain ⟨z, rfl, gz⟩ := hf _ _ _ ht
      refine ⟨z, fun j v hj => ?_, gz⟩
      obtain ⟨hj1, hj2⟩ := List.getElem?_eq_some_iff.1 hj
      have := hat j (by rw [hf0] at hj1; exact hj1)
      rw [this]
      simp [hj]
    obtain ⟨g, hg⟩ : ∃ g : Nat → α, ∀ i, i < n → (∀ j v, (f (g i))[j]? = some v → w.cell? ((a.add (i * k)).add j) = some v) ∧ Good (g i) :=
      ⟨fun i => if h : i < n then (key i h).choose else default, fun i h => by simp only [dif_pos h]; exact (key i h).choose_spec⟩
    refine ⟨some a, n, c, (List.range n).map g, rfl, by simp, Nat.le_trans hl hm, fun hne => ?_, ?_⟩
    · have hn0 : 0 < n := by
        rcases Nat.eq_zero_or_pos n with h0 | h0
        · subst h0; exact absurd rfl hne
        · exact h0
      have hk0 : 0 < (f (g 0)).length := by rw [hf0]; exact hk
      have h0 := (hg 0 hn0).1 0 (f (g 0))[0] (List.getElem?_eq_getElem hk0)
      simp only [Nat.zero_mul, Addr.add, if_true] at h0
      have hsp : a.spot = none := spot_none h0
      refine ⟨a.block, a.off, ?_, World.block_lt_of_cell? w _ h0, fun i hi' j v hj => ?_⟩
      · obtain ⟨b, o, s⟩ := a; simp only at hsp; rw [hsp]
      · have hin : i < n := by simpa using hi'
        simp only [List.getElem_map, List.getElem_range] at hj
        have := (hg i hin).1 j v hj
        rw [add_off hsp, add_off rfl] at this
        exact this
    · intro z hz
      obtain ⟨i, hi', rfl⟩ := List.mem_map.1 hz
      exact (hg i (List.mem_range.1 hi')).2
theorem trod_number {fuel : Nat} {cs : List Value} {x : DataW H × List MemPlace} (h : DataW.trod enc Tryz.prog w base spare held fuel 39 cs = some x) : ∃ a b : Int, cs = [.int .i64 a, .int .i64 b] ∧ Fits a ∧ Fits b := by
  obtain ⟨y0, y1, n, _, hl, h0, h1⟩ := trod_struct2 Tryz.underlying39 h
  rw [Tryz.cells39] at hl
  obtain ⟨c0, c1, rfl⟩ := two_of hl
  simp only [Tryz.cells3, List.drop_zero, List.take_succ_cons, List.take_zero, List.drop_succ_cons] at h0 h1
  obtain ⟨a, e0, _, wa⟩ := DataW.trod_int Tryz.underlying3 h0
  obtain ⟨b, e1, _, wb⟩ := DataW.trod_int Tryz.underlying3 h1
  cases e0
  cases e1
  exact ⟨a, b, rfl, fits_of_wf wa, fits_of_wf wb⟩
set_option maxRecDepth 100000 in
theorem trod_val {fuel : Nat} {cs : List Value} {x : DataW H × List MemPlace} (h : DataW.trod enc Tryz.prog w base spare held fuel 41 cs = some x) : ∃ z : Val, cs = z.cs ∧ (Fits z.mant ∧ Fits z.exp) := by
  obtain ⟨xs, n, _, _, hl, hlen, hf⟩ := DataW.trod_struct Tryz.underlying41 h
  rw [Tryz.cells41] at hl
  obtain ⟨c0, c1, c2, c3, c4, c5, rfl⟩ := six_of hl
  match xs, hlen with
  | [y0, y1, y2, y3, y4], _ =>
    have h0 := hf 0 _ rfl
    have h1 := hf 1 _ rfl
    have h2 := hf 2 _ rfl
    have h3 := hf 3 _ rfl
    have h4 := hf 4 _ rfl
    simp only [Tryz.cells3, Tryz.cells4, Tryz.cells9, Tryz.cells39, List.drop_zero, List.take_succ_cons, List.take_zero, List.drop_succ_cons, List.getElem?_cons_zero, List.getElem?_cons_succ] at h0 h1 h2 h3 h4
    obtain ⟨k, e0, _, _⟩ := DataW.trod_int Tryz.underlying3 h0
    obtain ⟨m, ex, e1, fm, fe⟩ := trod_number h1
    obtain ⟨t, e2, _, _⟩ := DataW.trod_string Tryz.underlying9 h2
    obtain ⟨b, e3, _⟩ := DataW.trod_bool Tryz.underlying4 h3
    obtain ⟨f, e4, _, _⟩ := DataW.trod_int Tryz.underlying3 h4
    cases e0
    cases e1
    cases e2
    cases e3
    cases e4
    exact ⟨⟨k, m, ex, t, b, f⟩, rfl, fm, fe⟩
set_option maxRecDepth 100000 in
theorem open_array {r : Go.Reach} {b0 : Nat} {v : Value} {d : DataW H} {p : List MemPlace} (hv : Value.okWide Tryz.prog w r b0 28 v) (h : DataW.Trod enc Tryz.prog w 0 (fun _ => true) held 28 v d p) :
    ∃ (r c : Int) (A : Option Addr) (n ca : Nat) (l : List Val), v = .agg #[.int .i64 r, .int .i64 c, .slice A n ca] ∧ l.length = n ∧ ManyR Val.cs 6 w A l ∧ ∀ z ∈ l, FitsV z := by
  obtain ⟨cs, rfl, hsz⟩ := okWide_struct Tryz.underlying28 hv
  obtain ⟨fuel, hf0⟩ := h
  obtain ⟨xs, n, _, _, hl, hlen, hf⟩ := DataW.trod_struct Tryz.underlying28 hf0
  rw [Tryz.cells28] at hl
  obtain ⟨c0, c1, c2, e⟩ := three_of hl
  rw [e] at hf
  match xs, hlen with
  | [y0, y1, y2], _ =>
    have h0 := hf 0 _ rfl
    have h1 := hf 1 _ rfl
    have h2 := hf 2 _ rfl
    simp only [Tryz.cells3, Tryz.cells26, List.drop_zero, List.take_succ_cons, List.take_zero, List.drop_succ_cons, List.getElem?_cons_zero, List.getElem?_cons_succ] at h0 h1 h2
    obtain ⟨r', e0, _, _⟩ := DataW.trod_int Tryz.underlying3 h0
    obtain ⟨c', e1, _, _⟩ := DataW.trod_int Tryz.underlying3 h1
    obtain ⟨A, m, ca, l, e2, hl2, _, hR, hg⟩ := cells_many (f := Val.cs) (Good := fun z => Fits z.mant ∧ Fits z.exp) Tryz.underlying26 Tryz.cells41 (by omega) (fun _ => rfl) (fun _ _ _ h => trod_val h) h2
    cases e0
    cases e1
    cases e2
    refine ⟨r', c', A, m, ca, l, ?_, hl2, hR, fun z hz => ⟨(hg z hz).1.1, (hg z hz).1.2, (hg z hz).2.1, (hg z hz).2.2⟩⟩
    have : cs = #[.int .i64 r', .int .i64 c', .slice A m ca] := by
      apply Array.ext'
      simpa [Value.cells] using e
    rw [this]
end
end Go.Proofs.YtdmbppgogdkpdaaGreatDoor
