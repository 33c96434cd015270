/-
  Stable sorting in place, in plain lists: blocks in order, and what merging them by twos comes to. No program in sight.
-/
import Derived.Test.YtifdpcjfjoekmaaA9
namespace Go.Proofs.Ytifdpcjfjoekmaa

section
variable {cf : Nat → Nat → Int} {n : Nat}
/-- In [a, b) blocks of so many are in order, and what they have belongs there. -/
structure Half (cf : Nat → Nat → Int) (bs a b : Nat) (d : List Nat) : Prop where
  srt : ∀ p q, a ≤ p → p < q → q < b → p / bs = q / bs → T cf (D d p) (D d q)
  own : ∀ p, a ≤ p → p < b → D d p / bs = p / bs
theorem Half.none (bs a : Nat) (d : List Nat) : Half cf bs a a d := ⟨fun p q _ _ _ => by omega, fun p _ _ => by omega⟩
theorem Half.same {bs a b : Nat} {d d' : List Nat} (h : Half cf bs a b d) (he : ∀ p, a ≤ p → p < b → D d' p = D d p) : Half cf bs a b d' :=
  ⟨fun p q h1 h2 h3 h4 => by rw [he p h1 (by omega), he q (by omega) h3]; exact h.srt p q h1 h2 h3 h4, fun p h1 h2 => by rw [he p h1 h2]; exact h.own p h1 h2⟩
/-- A block more. -/
theorem Half.block {bs k b : Nat} {d : List Nat} (hb : bs = 20 ∨ bs = 40 ∨ bs = 80) (h : Half cf bs 0 (k * bs) d) (h1 : k * bs ≤ b) (h2 : b ≤ k * bs + bs) (hs : Srt cf (k * bs) b d) (ho : ∀ p, k * bs ≤ p → p < b → k * bs ≤ D d p ∧ D d p < k * bs + bs) : Half cf bs 0 b d := by
  refine ⟨fun p q p1 p2 p3 p4 => ?_, fun p p1 p2 => ?_⟩
  · by_cases c : q < k * bs
    · exact h.srt p q p1 p2 c p4
    · exact hs p q (by rcases hb with rfl | rfl | rfl <;> omega) p2 p3
  · by_cases c : p < k * bs
    · exact h.own p p1 c
    · have := ho p (by omega) p2
      rcases hb with rfl | rfl | rfl <;> omega
/-- Two blocks, to be merged. -/
theorem Half.mrg {bs a m b : Nat} {d : List Nat} {N : Nat} (hb : bs = 20 ∨ bs = 40) {k : Nat} (ha : a = k * (2 * bs)) (hm : m = a + bs) (h1 : m < b) (h2 : b ≤ a + 2 * bs) (h3 : b ≤ n) (h : Half cf bs a n d) (hu : Under N d) (hl : d.length = n) : Mrg cf N d a m b := by
  refine ⟨by rcases hb with rfl | rfl <;> omega, h1, by omega, hu, fun p q p1 p2 p3 => ?_, fun p q p1 p2 p3 => ?_, fun p q p1 p2 q1 q2 => ?_⟩
  · exact h.srt p q p1 p2 (by omega) (by rcases hb with rfl | rfl <;> omega)
  · exact h.srt p q (by omega) p2 (by omega) (by rcases hb with rfl | rfl <;> omega)
  · have e1 := h.own p p1 (by omega)
    have e2 := h.own q (by omega) (by omega)
    rcases hb with rfl | rfl <;> omega
/-- Two blocks, merged. -/
theorem Half.merged {bs a b k : Nat} {d d' : List Nat} (hb : bs = 20 ∨ bs = 40) (ha : a = k * (2 * bs)) (h2 : b ≤ a + 2 * bs) (h1 : a ≤ b) (h3 : b ≤ n) (hd : Half cf (2 * bs) 0 a d) (h : Half cf bs a n d) (v : Mv a b d d') (s : Srt cf a b d') :
    Half cf (2 * bs) 0 b d' ∧ Half cf bs b n d' := by
  have hd' := hd.same (d' := d') (fun p _ p2 => v.out p (by omega))
  refine ⟨?_, ?_⟩
  · have e : a = k * (2 * bs) := ha
    rw [e] at hd' s h2
    refine Half.block (by omega) hd' (by omega) h2 s (fun p p1 p2 => ?_)
    obtain ⟨q, q1, q2, e3⟩ := v.into p (by omega) p2
    have e4 := h.own q q1 (by omega)
    rw [e3]
    rcases hb with rfl | rfl <;> omega
  · have h' : Half cf bs b n d := ⟨fun p q p1 p2 p3 p4 => h.srt p q (by omega) p2 p3 p4, fun p p1 p2 => h.own p (by omega) p2⟩
    exact h'.same (fun p p1 _ => v.out p (by omega))
/-- A block that is alone. -/
theorem Half.alone {bs a k : Nat} {d : List Nat} (hb : bs = 20 ∨ bs = 40) (ha : a = k * (2 * bs)) (h1 : a ≤ n) (h2 : n ≤ a + bs) (hd : Half cf (2 * bs) 0 a d) (h : Half cf bs a n d) : Half cf (2 * bs) 0 n d := by
  have e : a = k * (2 * bs) := ha
  rw [e] at hd
  refine Half.block (k := k) (by omega) hd (by omega) (by omega) (fun p q p1 p2 p3 => ?_) (fun p p1 p2 => ?_)
  · exact h.srt p q (by omega) p2 p3 (by rcases hb with rfl | rfl <;> omega)
  · have := h.own p (by omega) p2
    rcases hb with rfl | rfl <;> omega
theorem Half.all {bs : Nat} {d : List Nat} (hb : bs = 20 ∨ bs = 40 ∨ bs = 80) (h : Half cf bs 0 n d) (hn : n ≤ bs) : Srt cf 0 n d := fun p q p1 p2 p3 =>
  h.srt p q p1 p2 p3 (by rcases hb with rfl | rfl | rfl <;> omega)
end

/-- The result: all of 0 .. n-1, in order. -/
structure Sorted (cf : Nat → Nat → Int) (n : Nat) (d : List Nat) : Prop where
  perm : d.Perm (List.range n)
  srt : Srt cf 0 n d
theorem Sorted.pairwise {cf : Nat → Nat → Int} {n : Nat} {d : List Nat} (h : Sorted cf n d) : d.Pairwise (T cf) := by
  rw [List.pairwise_iff_getElem]
  intro i j hi hj hij
  have hl : d.length = n := by rw [h.perm.length_eq, List.length_range]
  have := h.srt i j (Nat.zero_le _) hij (by omega)
  have e1 : D d i = d[i] := by simp [D, List.getD, hi]
  have e2 : D d j = d[j] := by simp [D, List.getD, hj]
  rw [e1, e2] at this
  exact this
/-- There is one such list. -/
theorem Sorted.unique {cf : Nat → Nat → Int} {n : Nat} (o : Ord cf n) {d e : List Nat} (h : Sorted cf n d) (k : Sorted cf n e) : d = e := by
  have hm : ∀ x ∈ d, x < n := fun x hx => List.mem_range.1 (h.perm.mem_iff.1 hx)
  have hm' : ∀ x ∈ e, x < n := fun x hx => List.mem_range.1 (k.perm.mem_iff.1 hx)
  have hp : d.Perm e := h.perm.trans k.perm.symm
  exact List.Perm.eq_of_pairwise (le := T cf) (fun a b ha hb h1 h2 => absurd h2 (T_asym o (hm a ha) (hm' b hb) h1)) h.pairwise k.pairwise hp
end Go.Proofs.Ytifdpcjfjoekmaa
