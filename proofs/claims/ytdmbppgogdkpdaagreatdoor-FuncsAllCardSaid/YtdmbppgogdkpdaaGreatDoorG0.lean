/-
  Plain: all names, sorted; what a selection of the least one, again and again, comes to. No condition.
-/
import Derived.Test.YtdmbppgogdkpdaaGreatDoorA1
import GoSem.Op.String
namespace Go.Proofs.YtdmbppgogdkpdaaGreatDoor
theorem bytesLess_iff : ∀ (a b : List UInt8), Op.bytesLess a b = true ↔ a < b
  | [], [] => by simp [Op.bytesLess]
  | [], _ :: _ => by simp [Op.bytesLess]
  | _ :: _, [] => by simp [Op.bytesLess]
  | a :: x, b :: y => by
    rw [List.cons_lt_cons_iff, ← bytesLess_iff x y]
    simp [Op.bytesLess]
theorem bytesLess_not (a b : List UInt8) : Op.bytesLess a b = false ↔ b ≤ a := by
  rw [← Bool.not_eq_true, bytesLess_iff]
  exact Iff.rfl
def allNames : List (List UInt8) := namesAll ++ namesLazy
def sortedAll : List (List UInt8) := allNames.mergeSort (fun x y => decide (x ≤ y))
theorem le_tr (a b c : List UInt8) (h1 : decide (a ≤ b) = true) (h2 : decide (b ≤ c) = true) : decide (a ≤ c) = true := decide_eq_true (List.le_trans (of_decide_eq_true h1) (of_decide_eq_true h2))
theorem le_tot (a b : List UInt8) : (decide (a ≤ b) || decide (b ≤ a)) = true := by
  rcases List.le_total a b with h | h <;> simp [h]
theorem sortedAll_rise : sortedAll.Pairwise (fun x y => x ≤ y) := by
  have h := List.pairwise_mergeSort (le := fun x y => decide (x ≤ y)) le_tr le_tot allNames
  exact h.imp (fun h => of_decide_eq_true h)
theorem sortedAll_perm : sortedAll.Perm allNames := List.mergeSort_perm _ _
theorem sorted_one {l m : List (List UInt8)} (hl : l.Pairwise (fun x y => x ≤ y)) (hm : m.Pairwise (fun x y => x ≤ y)) (h : l.Perm m) : l = m :=
  List.Perm.eq_of_pairwise (le := fun a b => a ≤ b) (fun a b _ _ h1 h2 => List.le_antisymm h1 h2) hl hm h
theorem allNames_len : allNames.length = 69 := by decide +kernel
theorem sortedAll_len : sortedAll.length = 69 := by rw [sortedAll_perm.length_eq]; exact allNames_len
structure Sel (O L : List (List UInt8)) : Prop where
  perm : (O ++ L).Perm allNames
  rise : O.Pairwise (fun x y => x ≤ y)
  le : ∀ x ∈ O, ∀ y ∈ L, x ≤ y
theorem Sel.start : Sel [] allNames := ⟨List.Perm.refl _, List.Pairwise.nil, fun _ h => by cases h⟩
theorem Sel.len {O L : List (List UInt8)} (h : Sel O L) : O.length + L.length = 69 := by
  have := h.perm.length_eq
  rw [List.length_append, allNames_len] at this
  exact this
theorem Sel.step {O L : List (List UInt8)} (h : Sel O L) (k : Nat) (hk : k < L.length) (hmin : ∀ j (hj : j < L.length), L[k] ≤ L[j]) : Sel (O ++ [L[k]]) (L.take k ++ L.drop (k + 1)) := by
  have e : L = L.take k ++ L[k] :: L.drop (k + 1) := by rw [List.getElem_cons_drop, List.take_append_drop]
  have hsub : ∀ y ∈ L.take k ++ L.drop (k + 1), y ∈ L := by
    intro y hy
    rw [List.mem_append] at hy
    rcases hy with hy | hy
    · exact List.mem_of_mem_take hy
    · exact List.mem_of_mem_drop hy
  refine ⟨?_, ?_, ?_⟩
  · refine List.Perm.trans ?_ h.perm
    rw [List.append_assoc]
    refine List.Perm.append_left _ ?_
    have p : (L.take k ++ L[k] :: L.drop (k + 1)).Perm (L[k] :: (L.take k ++ L.drop (k + 1))) := List.perm_middle
    rw [← e] at p
    exact p.symm
  · rw [List.pairwise_append]
    refine ⟨h.rise, List.pairwise_singleton _ _, fun x hx y hy => ?_⟩
    rw [List.mem_singleton.1 hy]
    exact h.le x hx _ (List.getElem_mem hk)
  · intro x hx y hy
    rcases List.mem_append.1 hx with hx | hx
    · exact h.le x hx y (hsub y hy)
    · rw [List.mem_singleton.1 hx]
      obtain ⟨j, hj, rfl⟩ := List.getElem_of_mem (hsub y hy)
      exact hmin j hj
theorem Sel.done {O : List (List UInt8)} (h : Sel O []) : O = sortedAll := by
  refine sorted_one h.rise sortedAll_rise ?_
  have := h.perm
  rw [List.append_nil] at this
  exact this.trans sortedAll_perm.symm
/-- k is the place of the least one among the first i. -/
def Least (L : List (List UInt8)) (i k : Nat) : Prop := ∃ hk : k < L.length, ∀ j (hj : j < L.length), j < i → L[k] ≤ L[j]
theorem Least.start {L : List (List UInt8)} (h : 0 < L.length) : Least L 1 0 := ⟨h, fun j hj h1 => by
  have : j = 0 := by omega
  subst this
  exact List.le_refl _⟩
theorem Least.keep {L : List (List UInt8)} {i k : Nat} (h : Least L i k) (hi : i < L.length) (hle : L[k]'h.1 ≤ L[i]) : Least L (i + 1) k := by
  refine ⟨h.1, fun j hj h1 => ?_⟩
  rcases Nat.lt_succ_iff_lt_or_eq.1 h1 with h2 | rfl
  · exact h.2 j hj h2
  · exact hle
theorem Least.turn {L : List (List UInt8)} {i k : Nat} (h : Least L i k) (hi : i < L.length) (hle : L[i] ≤ L[k]'h.1) : Least L (i + 1) i := by
  refine ⟨hi, fun j hj h1 => ?_⟩
  rcases Nat.lt_succ_iff_lt_or_eq.1 h1 with h2 | rfl
  · exact List.le_trans hle (h.2 j hj h2)
  · exact List.le_refl _
end Go.Proofs.YtdmbppgogdkpdaaGreatDoor
