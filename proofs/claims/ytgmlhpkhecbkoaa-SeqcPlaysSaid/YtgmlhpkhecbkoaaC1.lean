/-
  slices.Index at ids. No condition but that the slice can be read.
-/
import Derived.Test.YtgmlhpkhecbkoaaB
namespace Go.Proofs.Ytgmlhpkhecbkoaa
open Go.RowKit

def idxI (k : Id) (l : List Id) : Int := if k ∈ l then (l.idxOf k : Int) else -1
theorem idxOf_eq {k : Id} {l : List Id} {i : Nat} (hi : l[i]? = some k) (hb : ∀ j, j < i → l[j]? ≠ some k) : k ∈ l ∧ l.idxOf k = i := by
  induction l generalizing i with
  | nil => simp at hi
  | cons x l ih =>
    cases i with
    | zero => simp at hi; subst hi; simp
    | succ i =>
      have hx : x ≠ k := fun e => hb 0 (by omega) (by simp [e])
      obtain ⟨h1, h2⟩ := ih (i := i) (by simpa using hi) (fun j hj => by have := hb (j + 1) (by omega); simpa using this)
      refine ⟨List.mem_cons_of_mem _ h1, ?_⟩
      rw [List.idxOf_cons]
      have : (x == k) = false := by simpa using hx
      rw [this, h2]; rfl
theorem idxI_hit {k : Id} {l : List Id} {i : Nat} (hi : l[i]? = some k) (hb : ∀ j, j < i → l[j]? ≠ some k) : idxI k l = i := by
  obtain ⟨h1, h2⟩ := idxOf_eq hi hb
  unfold idxI; rw [if_pos h1, h2]
theorem idxI_miss {k : Id} {l : List Id} (hb : ∀ j, j < l.length → l[j]? ≠ some k) : idxI k l = -1 := by
  unfold idxI
  rw [if_neg]
  intro h
  obtain ⟨j, hj, e⟩ := List.mem_iff_getElem.1 h
  exact hb j hj (by rw [List.getElem?_eq_getElem hj, e])
theorem idxI_lt {k : Id} {l : List Id} : -1 ≤ idxI k l ∧ idxI k l < l.length ∨ (idxI k l = -1) := by
  unfold idxI; split
  · rename_i h; left; have := List.idxOf_lt_length_iff.2 h; omega
  · right; rfl

theorem ret_int {k : IntKind} {a b : Int} (h : a = b) : Ending.returned (.int k a) = .returned (.int k b) := by rw [h]

set_option maxHeartbeats 400000 in
theorem index_c (A : Option Addr) (n c : Nat) (x y : Int) (l : List Id) (w : World) (own : Tags) (t : Nat) (hR : IdsR w own t A l) (hn : l.length = n) (hm : n ≤ maxLen) :
    Calls Try.prog 79 #[.slice A n c, .agg #[.int .i64 x, .int .i64 y]] w fun e w' => e = .returned (.int .i64 (idxI (x, y) l)) ∧ Below w.heap.size w w' := by
  unfold maxLen at hm
  have Hn := Lib.hid hn
  clear hn
  have HR := Lib.hid hR
  clear hR
  go_enter Try.func79, Try.ntmps79
  go_wp2
  go_loopw [5, 8] (fun _ i wr => ∃ k : Nat, k ≤ n ∧ i = .int .i64 k ∧ Hid (∀ j, j < k → l[j]? ≠ some (x, y)) ∧ wr.cell? ⟨w.heap.size, 0, none⟩ = some (.int .i64 x) ∧ wr.cell? ⟨w.heap.size, 1, none⟩ = some (.int .i64 y) ∧ Below w.heap.size w wr) (fun _ i _ => n - (intOf i).toNat)
  case atStart => exact ⟨0, Nat.zero_le _, rfl, (fun j hj => absurd hj (by omega)), by simp, by simp, (Below.refl _ _).alloc (Nat.le_refl _) _⟩
  case round =>
    obtain ⟨k, hk, rfl, hno, h1, h2, hB⟩ := hrel
    by_cases hlt : k < n
    · have hkl : k < l.length := by rw [Hn.out]; exact hlt
      obtain ⟨b, off, rfl, _, hb, hc⟩ := HR.out (fun e => by rw [e] at hkl; simp at hkl)
      have g := hc k hkl
      have g1 : wr.cell? ⟨b, off + k * 2, none⟩ = some (.int .i64 l[k].1) := (hB.cell (p := ⟨b, off + k*2, none⟩) hb).trans g.1
      have g2 : wr.cell? ⟨b, off + k * 2 + 1, none⟩ = some (.int .i64 l[k].2) := (hB.cell (p := ⟨b, off + k*2+1, none⟩) hb).trans g.2
      have hz := Lib.hid (List.getElem?_eq_getElem hkl)
      clear g hc
      generalize l[k] = z at *
      obtain ⟨z1, z2⟩ := z
      dsimp only at g1 g2
      cases hq : ideq x y z1 z2
      · have Hq := Lib.hid (ideq_false.1 hq)
        go_wp2
        go_quiet (fail)
        go_wp2
        go_roundw
        case rel =>
          refine ⟨k + 1, by omega, by go_num, ?_, h1, h2, ⟨hB.os, hB.tape, hB.output, hB.size, hB.block⟩⟩
          intro j hj
          by_cases hjk : j < k
          · exact hno.out j hjk
          · have : j = k := by omega
            subst this
            rw [hz.out]
            intro e
            have e := Option.some.inj e
            simp only [Prod.mk.injEq] at e
            exact Hq.out ⟨e.1.symm, e.2.symm⟩
        case measure => simp [intOf]; omega
      · obtain ⟨rfl, rfl⟩ := ideq_true.1 hq
        go_wp2
        go_quiet (fail)
        go_wp2
        go_ret
        exact ⟨ret_int (idxI_hit hz.out hno.out).symm, ⟨hB.os, hB.tape, hB.output, hB.size, hB.block⟩⟩
    · go_wp2
      go_ret
      exact ⟨ret_int (idxI_miss (fun j hj => hno.out j (by rw [Hn.out] at hj; omega))).symm, hB⟩
end Go.Proofs.Ytgmlhpkhecbkoaa
