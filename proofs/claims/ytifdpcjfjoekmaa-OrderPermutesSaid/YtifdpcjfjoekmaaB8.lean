/-
  Sorting by the second key and then by the first is sorting by both; what is sorted stays. No program in sight.
-/
import Derived.Test.YtifdpcjfjoekmaaA17
namespace Go.Proofs.Ytifdpcjfjoekmaa

theorem D_at {d : List Nat} {i : Nat} (h : i < d.length) : D d i = d[i] := by simp [D, List.getD, h]
theorem cmpK_anti (x y : List Val) (ks : List KeyD) : cmpK y x ks = -cmpK x y ks := (pre_cmpK ks).anti x y trivial trivial
theorem cmpK_two (x y : List Val) (a b : KeyD) : cmpK x y [a, b] = if cmpK x y [a] ≠ 0 then cmpK x y [a] else cmpK x y [b] := by
  simp only [cmpK]
  split
  · rename_i h; simp only [h, ne_eq, not_false_eq_true, if_true]
  · rename_i h; simp only [ne_eq, not_true_eq_false, if_false]
theorem Sorted.length {cf : Nat → Nat → Int} {n : Nat} {d : List Nat} (h : Sorted cf n d) : d.length = n := by rw [h.perm.length_eq, List.length_range]
theorem Sorted.lt {cf : Nat → Nat → Int} {n : Nat} {d : List Nat} (h : Sorted cf n d) {i : Nat} (hi : i < n) : D d i < n := by
  have hl := h.length
  have : D d i ∈ d := by rw [D_at (by omega)]; exact List.getElem_mem _
  exact List.mem_range.1 (h.perm.mem_iff.1 this)
theorem D_map {d : List Nat} (f : Nat → Nat) {i : Nat} (hi : i < d.length) : D (d.map f) i = f (D d i) := by
  rw [D_at (by simpa using hi), D_at hi, List.getElem_map]
theorem map_D_range (d : List Nat) : (List.range d.length).map (D d) = d := by
  apply List.ext_getElem
  · simp
  · intro i h1 h2
    simp only [List.getElem_map, List.getElem_range]
    exact D_at h2
theorem twice_first {rs rm : List RowD} {a b : KeyD} {n : Nat} {P F t : List Nat} (hP : Sorted (cmpAt rs [a, b]) n P) (hF : Sorted (cmpAt rs [b]) n F) (hM : ∀ i, i < n → rowAt rm i = rowAt rs (D F i))
    (ht : Sorted (cmpAt rm [a]) n t) (i : Nat) (hi : i < n) : D F (D t i) = D P i := by
  have hl := ht.length
  have hs : Sorted (cmpAt rs [a, b]) n (t.map (D F)) := by
    refine ⟨?_, fun p q _ hpq hq => ?_⟩
    · refine (ht.perm.map (D F)).trans ?_
      have := map_D_range F
      rw [hF.length] at this
      rw [this]
      exact hF.perm
    · rw [D_map _ (by omega), D_map _ (by omega)]
      have lp := ht.lt (show p < n by omega)
      have lq := ht.lt hq
      have h1 := ht.srt p q (Nat.zero_le _) hpq hq
      have h2 := fun h => hF.srt (D t p) (D t q) (Nat.zero_le _) h lq
      unfold T cmpAt at h1 h2 ⊢
      rw [hM _ lp, hM _ lq] at h1
      generalize rowAt rs (D F (D t p)) = x at *
      generalize rowAt rs (D F (D t q)) = y at *
      have e1 := cmpK_anti x y [a]
      have e2 := cmpK_anti x y [b]
      have e3 := cmpK_anti x y [a, b]
      have e4 := cmpK_two x y a b
      rw [e1] at h1
      rw [e2] at h2
      rw [e3]
      by_cases h0 : cmpK x y [a] = 0
      · rw [if_neg (by simpa using h0)] at e4
        rw [e4]
        rcases h1 with h1 | ⟨_, h1⟩
        · omega
        · rcases h2 h1 with h2 | ⟨h2, h3⟩
          · exact .inl h2
          · exact .inr ⟨h2, h3⟩
      · rw [if_pos h0] at e4
        rw [e4]
        left
        omega
  have := (hP.unique (ord_of (pre_cmpK _) (rowAt rs) n) hs)
  rw [this, D_map _ (by omega)]
theorem twice_again {rs rn : List RowD} {ks : List KeyD} {n : Nat} {P t : List Nat} (hP : Sorted (cmpAt rs ks) n P) (hN : ∀ i, i < n → rowAt rn i = rowAt rs (D P i)) (ht : Sorted (cmpAt rn ks) n t) (i : Nat) (hi : i < n) : D t i = i := by
  have hd : ∀ p, p < n → D (List.range n) p = p := fun p hp => by rw [D_at (by simpa using hp), List.getElem_range]
  have hs : Sorted (cmpAt rn ks) n (List.range n) := by
    refine ⟨List.Perm.refl _, fun p q _ hpq hq => ?_⟩
    rw [hd p (by omega), hd q hq]
    have h1 := hP.srt p q (Nat.zero_le _) hpq hq
    unfold T cmpAt at h1 ⊢
    rw [hN p (by omega), hN q hq]
    rcases h1 with h1 | ⟨h1, _⟩
    · exact .inl h1
    · exact .inr ⟨h1, hpq⟩
  rw [ht.unique (ord_of (pre_cmpK _) (rowAt rn) n) hs, hd i hi]
end Go.Proofs.Ytifdpcjfjoekmaa
