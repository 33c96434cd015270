/-
  Each row put behind all that do not stand behind it: the same order. No program in sight.
-/
import Derived.Test.YtifdpcjfjoekmaaB8
namespace Go.Proofs.Ytifdpcjfjoekmaa

theorem srt_of_pairwise {cf : Nat → Nat → Int} {n : Nat} {d : List Nat} (h : d.Pairwise (T cf)) (hl : d.length = n) : Srt cf 0 n d := fun p q _ hpq hq => by
  rw [D_at (by omega), D_at (by omega)]
  exact List.pairwise_iff_getElem.1 h p q (by omega) (by omega) hpq
theorem D_of_mem {d : List Nat} {x : Nat} (h : x ∈ d) : ∃ j, j < d.length ∧ D d j = x := by
  obtain ⟨j, hj, he⟩ := List.mem_iff_getElem.1 h
  exact ⟨j, hj, by rw [D_at hj, he]⟩
theorem D_of_take {d : List Nat} {k x : Nat} (h : x ∈ d.take k) : ∃ j, j < k ∧ j < d.length ∧ D d j = x := by
  obtain ⟨j, hj, he⟩ := List.mem_iff_getElem.1 h
  rw [List.length_take] at hj
  refine ⟨j, by omega, by omega, ?_⟩
  rw [D_at (by omega), ← he, List.getElem_take]
theorem D_of_drop {d : List Nat} {k x : Nat} (h : x ∈ d.drop k) : ∃ j, k ≤ j ∧ j < d.length ∧ D d j = x := by
  obtain ⟨j, hj, he⟩ := List.mem_iff_getElem.1 h
  rw [List.length_drop] at hj
  refine ⟨k + j, by omega, by omega, ?_⟩
  rw [D_at (by omega), ← he, List.getElem_drop]
def insAt (d : List Nat) (k i : Nat) : List Nat := d.take k ++ i :: d.drop k
theorem ins_sorted {cf : Nat → Nat → Int} {n i k : Nat} {d : List Nat} (o : Ord cf n) (hi : i < n) (h : Sorted cf i d) (hgt : ∀ j, k ≤ j → j < i → cf i (D d j) < 0) (hle : k = 0 ∨ (k ≤ i ∧ ¬ cf i (D d (k - 1)) < 0)) :
    Sorted cf (i + 1) (insAt d k i) := by
  have hl := h.length
  have hp : (insAt d k i).Perm (List.range (i + 1)) := by
    unfold insAt
    refine List.perm_middle.trans ?_
    rw [List.take_append_drop, List.range_succ]
    exact ((List.Perm.cons i h.perm).trans (List.perm_append_singleton i (List.range i)).symm)
  refine ⟨hp, srt_of_pairwise ?_ (by rw [hp.length_eq, List.length_range])⟩
  have pw := h.pairwise
  unfold insAt
  rw [List.pairwise_append]
  refine ⟨pw.sublist (List.take_sublist k d), ?_, ?_⟩
  · rw [List.pairwise_cons]
    refine ⟨fun b hb => ?_, pw.sublist (List.drop_sublist k d)⟩
    obtain ⟨j, h1, h2, rfl⟩ := D_of_drop hb
    exact .inl (hgt j h1 (by omega))
  · intro a ha b hb
    rcases List.mem_cons.1 hb with rfl | hb
    · obtain ⟨j, h1, h2, rfl⟩ := D_of_take ha
      rcases hle with h0 | ⟨hki, h0⟩
      · omega
      · have hlt := h.lt (show k - 1 < b by omega)
        have ht : T cf (D d (k - 1)) b := .inr ⟨h0, hlt⟩
        by_cases hj : j = k - 1
        · rw [hj]; exact ht
        · exact o.trans _ _ _ (by have := h.lt (show j < b by omega); omega) (by omega) (by omega) (h.srt j (k - 1) (Nat.zero_le _) (by omega) (by omega)) ht
    · have hd : d = d.take k ++ d.drop k := (List.take_append_drop k d).symm
      rw [hd, List.pairwise_append] at pw
      exact pw.2.2 a ha b hb
end Go.Proofs.Ytifdpcjfjoekmaa
