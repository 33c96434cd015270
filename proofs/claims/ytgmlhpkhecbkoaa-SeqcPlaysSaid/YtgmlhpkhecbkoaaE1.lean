/-
  How the arguments of the laws are opened: slices of ids, an id by value. No condition.
-/
import Derived.Test.YtgmlhpkhecbkoaaC8
import Derived.Test.YtgmlhpkhecbkoaaRows
import Derived.ProofKit
import Derived.Lib.SmallJoins
import Derived.Deep.Slices
import Derived.Deep.Fields
namespace Go.Proofs.Ytgmlhpkhecbkoaa
open Go.RowKit Go.ChangeShapes Go.WideShapes Go.ChangeAt Go.Joins Go.Deep

theorem Try.own : ownKnob Try.prog.godebug = none := by kernel_rfl
theorem Try.laidOut : laidOutB Try.prog = true := by kernel_rfl
theorem Try.cells24 : Try.prog.cellsOf 24 = 2 := by kernel_rfl
theorem Try.cells3 : Try.prog.cellsOf 3 = 1 := by kernel_rfl

/-- An int that a variable can hold. -/
def Fits (n : Int) : Prop := -9223372036854775808 ≤ n ∧ n ≤ 9223372036854775807
theorem fits_of_wf {n : Int} (h : (Lit.int .i64 n).wf = true) : Fits n := by
  have h1 : IntKind.i64.min = -9223372036854775808 := rfl
  have h2 : IntKind.i64.max = 9223372036854775807 := rfl
  simp only [Lit.wf, Bool.and_eq_true, decide_eq_true_eq] at h
  unfold Fits
  omega

theorem two_of {l : List Value} (h : l.length = 2) : ∃ a b, l = [a, b] := by
  match l, h with
  | [a, b], _ => exact ⟨a, b, rfl⟩
section
variable {H : Type} {enc : TypeId × Value → H} {w : World} {base : Nat} {spare : Nat → Bool} {held : Bool}
set_option maxRecDepth 100000 in
/-- An id among cells. -/
theorem trod_id {fuel : Nat} {cs : List Value} {x : DataW H × List MemPlace} (h : DataW.trod enc Try.prog w base spare held fuel 24 cs = some x) : ∃ a b : Int, cs = [.int .i64 a, .int .i64 b] ∧ Fits a ∧ Fits b := by
  obtain ⟨y0, y1, n, _, hl, h0, h1⟩ := trod_struct2 Try.underlying24 h
  rw [Try.cells24] at hl
  obtain ⟨c0, c1, rfl⟩ := two_of hl
  simp only [Try.cells3, List.drop_zero, List.take_succ_cons, List.take_zero, List.drop_succ_cons] at h0 h1
  obtain ⟨a, e0, _, wa⟩ := DataW.trod_int Try.underlying3 h0
  obtain ⟨b, e1, _, wb⟩ := DataW.trod_int Try.underlying3 h1
  cases e0
  cases e1
  exact ⟨a, b, rfl, fits_of_wf wa, fits_of_wf wb⟩
set_option maxRecDepth 100000 in
theorem open_id {r : Reach} {b0 : Nat} {v : Value} {d : DataW H} {p : List MemPlace} (hv : Value.okWide Try.prog w r b0 24 v) (h : DataW.Trod enc Try.prog w base spare held 24 v d p) :
    ∃ a b : Int, v = .agg #[.int .i64 a, .int .i64 b] ∧ Fits a ∧ Fits b := by
  obtain ⟨cs, rfl, hsz⟩ := okWide_struct Try.underlying24 hv
  obtain ⟨fuel, hf⟩ := h
  obtain ⟨a, b, e, fa, fb⟩ := trod_id hf
  refine ⟨a, b, ?_, fa, fb⟩
  have : cs = #[.int .i64 a, .int .i64 b] := by
    apply Array.ext'
    simpa [Value.cells] using e
  rw [this]
theorem add_off {a : Addr} {n : Nat} : a.spot = none → a.add n = ⟨a.block, a.off + n, none⟩ := by
  intro h
  obtain ⟨b, o, s⟩ := a
  simp only at h
  subst h
  unfold Addr.add; split <;> simp_all
theorem spot_none {w : World} {a : Addr} {v : Value} (h : w.cell? a = some v) : a.spot = none := by
  unfold World.cell? at h
  split at h
  · split at h
    · cases h
    · rename_i hs; simpa using hs
  · cases h
set_option maxRecDepth 100000 in
theorem open_ids {r : Reach} {b0 : Nat} {v : Value} {d : DataW H} {p : List MemPlace} (hv : Value.okWide Try.prog w r b0 22 v) (h : DataW.Trod enc Try.prog w 0 (fun _ => true) held 22 v d p) :
    ∃ A n c ids, v = .slice A n c ∧ ids.length = n ∧ n ≤ maxLen ∧ IdsR w (fun _ => 0) 0 A ids ∧ ∀ z ∈ ids, Fits z.1 ∧ Fits z.2 := by
  obtain ⟨A, n, c, rfl⟩ := okWide_slice Try.underlying22 hv
  obtain ⟨fuel, hf⟩ := h
  rcases open_slice Try.underlying22 hf with ⟨hcs, _⟩ | ⟨a, len, cap, m, k, D, Pl, hcs, hb, hl, hm, hmm, hx, hi⟩
  · simp [Value.cells] at hcs
    obtain ⟨rfl, rfl, rfl⟩ := hcs
    exact ⟨none, 0, 0, [], rfl, rfl, Nat.zero_le _, fun e => absurd rfl e, by simp⟩
  · simp [Value.cells] at hcs
    obtain ⟨rfl, rfl, rfl⟩ := hcs
    simp only [if_true] at hmm
    have key : ∀ i, i < n → ∃ z : Id, w.cell? (a.add (i * 2)) = some (.int .i64 z.1) ∧ w.cell? ((a.add (i * 2)).add 1) = some (.int .i64 z.2) ∧ Fits z.1 ∧ Fits z.2 := by
      intro i hin
      obtain ⟨cs', hc, ht⟩ := hi i (by omega)
      rw [Try.cells24] at hc
      obtain ⟨_, _, hat⟩ := World.cells?_some hc
      obtain ⟨x, y, rfl, fx, fy⟩ := trod_id ht
      refine ⟨(x, y), ?_, ?_, fx, fy⟩
      · have := hat 0 (by omega); simpa [Addr.add] using this
      · simpa using hat 1 (by omega)
    obtain ⟨f, hf'⟩ : ∃ f : Nat → Id, ∀ i, i < n → w.cell? (a.add (i * 2)) = some (.int .i64 (f i).1) ∧ w.cell? ((a.add (i * 2)).add 1) = some (.int .i64 (f i).2) ∧ Fits (f i).1 ∧ Fits (f i).2 :=
      ⟨fun i => if h : i < n then (key i h).choose else (0, 0), fun i h => by simp only [dif_pos h]; exact (key i h).choose_spec⟩
    refine ⟨some a, n, c, (List.range n).map f, rfl, by simp, Nat.le_trans hl hm, fun hne => ?_, ?_⟩
    · have hn0 : 0 < n := by
        rcases Nat.eq_zero_or_pos n with h0 | h0
        · subst h0; exact absurd rfl hne
        · exact h0
      have hsp : a.spot = none := by
        have := (hf' 0 hn0).1
        simp only [Nat.zero_mul, Addr.add, if_true] at this
        exact spot_none this
      refine ⟨a.block, a.off, ?_, rfl, ?_, fun i hi' => ?_⟩
      · obtain ⟨b, o, s⟩ := a; simp only at hsp; rw [hsp]
      · have := (hf' 0 hn0).1
        have h3 := World.block_lt_of_cell? w _ this
        rw [add_off hsp] at h3
        exact h3
      · have hin : i < n := by simpa using hi'
        obtain ⟨h1, h2, _⟩ := hf' i hin
        rw [add_off hsp] at h1 h2
        rw [add_off rfl] at h2
        simp only [List.getElem_map, List.getElem_range]
        exact ⟨h1, h2⟩
    · intro z hz
      obtain ⟨i, hi', rfl⟩ := List.mem_map.1 hz
      exact (hf' i (List.mem_range.1 hi')).2.2
end
end Go.Proofs.Ytgmlhpkhecbkoaa
