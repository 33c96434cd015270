/-
  Stable sorting in place, in plain lists: what a swap, an exchange of ranges, a rotation, an insertion, a merge do. No program in sight.
-/
import Derived.Lib.Hide
namespace Go.Proofs.Ytifdpcjfjoekmaa

def D (d : List Nat) (p : Nat) : Nat := d.getD p 0
theorem D_get {d : List Nat} {p : Nat} (h : p < d.length) : d[p]? = some (D d p) := by
  unfold D; simp [List.getD, h]
theorem D_mem {d : List Nat} {p : Nat} (h : p < d.length) : D d p ∈ d := List.mem_of_getElem? (D_get h)
theorem D_set {d : List Nat} {i v p : Nat} (h : i < d.length) : D (d.set i v) p = if p = i then v else D d p := by
  unfold D
  simp only [List.getD, List.getElem?_set]
  by_cases e : i = p
  · subst e; simp [h]
  · rw [if_neg e, if_neg (fun h => e h.symm)]
theorem D_ext {d e : List Nat} (hl : d.length = e.length) (h : ∀ p, p < d.length → D d p = D e p) : d = e := by
  apply List.ext_getElem?
  intro p
  rcases Nat.lt_or_ge p d.length with hp | hp
  · rw [D_get hp, D_get (hl ▸ hp), h p hp]
  · rw [List.getElem?_eq_none hp, List.getElem?_eq_none (by omega)]
/-- Two places change what they have. -/
def swapAt (d : List Nat) (i j : Nat) : List Nat := (d.set i (D d j)).set j (D d i)
theorem swapAt_length (d : List Nat) (i j : Nat) : (swapAt d i j).length = d.length := by simp [swapAt]
theorem swapAt_D {d : List Nat} {i j p : Nat} (hi : i < d.length) (hj : j < d.length) : D (swapAt d i j) p = if p = j then D d i else if p = i then D d j else D d p := by
  unfold swapAt
  rw [D_set (by simpa using hj), D_set hi]
theorem count_set {l : List Nat} {i a b : Nat} (h : i < l.length) : (l.set i a).count b + (if D l i = b then 1 else 0) = l.count b + (if a = b then 1 else 0) := by
  induction l generalizing i with
  | nil => simp at h
  | cons x l ih =>
    cases i with
    | zero =>
      have e : D (x :: l) 0 = x := rfl
      rw [e, List.set_cons_zero, List.count_cons, List.count_cons]
      by_cases h1 : x = b <;> by_cases h2 : a = b <;> simp [h1, h2]
    | succ i =>
      have := ih (i := i) (by simpa using h)
      have e : D (x :: l) (i + 1) = D l i := rfl
      rw [e, List.set_cons_succ, List.count_cons, List.count_cons]
      by_cases h1 : D l i = b <;> by_cases h2 : a = b <;> by_cases h3 : x = b <;> simp [h1, h2, h3] at this ⊢ <;> omega
theorem swapAt_perm {d : List Nat} {i j : Nat} (hi : i < d.length) (hj : j < d.length) : (swapAt d i j).Perm d := by
  rw [List.perm_iff_count]
  intro b
  have h1 := count_set (l := d) (a := D d j) (b := b) hi
  have h2 := count_set (l := d.set i (D d j)) (i := j) (a := D d i) (b := b) (by simpa using hj)
  rw [D_set hi] at h2
  unfold swapAt
  by_cases e : j = i
  · subst e; rw [if_pos rfl] at h2; omega
  · rw [if_neg e] at h2; omega

def swI (a b k p : Nat) : Nat := if a ≤ p ∧ p < a + k then b + (p - a) else if b ≤ p ∧ p < b + k then a + (p - b) else p
/-- What was exchanged: two ranges. -/
structure SwapR (d d' : List Nat) (a b k : Nat) : Prop where
  perm : d'.Perm d
  at' : ∀ p, D d' p = D d (swI a b k p)
theorem SwapR.zero (d : List Nat) (a b : Nat) : SwapR d d a b 0 := ⟨List.Perm.refl _, fun p => by unfold swI; rw [if_neg (by omega), if_neg (by omega)]⟩
theorem SwapR.step {d d' : List Nat} {a b k : Nat} (h : SwapR d d' a b k) (hab : a + k < b) (hb : b + k < d.length) : SwapR d (swapAt d' (a + k) (b + k)) a b (k + 1) := by
  have hl : d'.length = d.length := h.perm.length_eq
  refine ⟨(swapAt_perm (by omega) (by omega)).trans h.perm, fun p => ?_⟩
  rw [swapAt_D (by omega) (by omega), h.at' (a + k), h.at' (b + k), h.at' p]
  have e1 : swI a b k (a + k) = a + k := by unfold swI; rw [if_neg (by omega), if_neg (by omega)]
  have e2 : swI a b k (b + k) = b + k := by unfold swI; rw [if_neg (by omega), if_neg (by omega)]
  rw [e1, e2]
  split
  · congr 1; unfold swI; split <;> (try split) <;> omega
  · split
    · congr 1; unfold swI; split <;> (try split) <;> omega
    · congr 1; unfold swI; split <;> split <;> (try split) <;> (try split) <;> omega

/-- Where the content of place p comes from in a rotation of [a, m) and [m, b). -/
def rotI (a m b p : Nat) : Nat := if a ≤ p ∧ p < a + (b - m) then m + (p - a) else if a + (b - m) ≤ p ∧ p < b then p - (b - m) else p
structure Rot (d d' : List Nat) (a m b : Nat) : Prop where
  perm : d'.Perm d
  at' : ∀ p, D d' p = D d (rotI a m b p)
theorem Rot.big {d d1 d2 : List Nat} {m i j : Nat} (hi : i ≤ m) (hj : j < i) (s : SwapR d d1 (m - i) m j) (r : Rot d1 d2 (m - (i - j)) m (m + j)) : Rot d d2 (m - i) m (m + j) := by
  refine ⟨r.perm.trans s.perm, fun p => ?_⟩
  rw [r.at' p, s.at']
  congr 1
  unfold rotI swI
  (repeat' split) <;> omega
theorem Rot.less {d d1 d2 : List Nat} {m i j : Nat} (hi : i ≤ m) (hj : i < j) (s : SwapR d d1 (m - i) (m + j - i) i) (r : Rot d1 d2 (m - i) m (m + (j - i))) : Rot d d2 (m - i) m (m + j) := by
  refine ⟨r.perm.trans s.perm, fun p => ?_⟩
  rw [r.at' p, s.at']
  congr 1
  unfold rotI swI
  (repeat' split) <;> omega
theorem Rot.same {d d1 : List Nat} {m i : Nat} (hi : i ≤ m) (s : SwapR d d1 (m - i) m i) : Rot d d1 (m - i) m (m + i) := by
  refine ⟨s.perm, fun p => ?_⟩
  rw [s.at']
  congr 1
  unfold rotI swI
  (repeat' split) <;> omega

/-- Within [a, b) things have moved, and nowhere else. -/
structure Mv (a b : Nat) (d d' : List Nat) : Prop where
  perm : d'.Perm d
  out : ∀ p, p < a ∨ b ≤ p → D d' p = D d p
  into : ∀ p, a ≤ p → p < b → ∃ q, a ≤ q ∧ q < b ∧ D d' p = D d q
theorem Mv.refl (a b : Nat) (d : List Nat) : Mv a b d d := ⟨List.Perm.refl _, fun _ _ => rfl, fun p h1 h2 => ⟨p, h1, h2, rfl⟩⟩
theorem Mv.trans {a b : Nat} {d d1 d2 : List Nat} (h : Mv a b d d1) (k : Mv a b d1 d2) : Mv a b d d2 :=
  ⟨k.perm.trans h.perm, fun p hp => (k.out p hp).trans (h.out p hp), fun p h1 h2 => by
    obtain ⟨q, q1, q2, e⟩ := k.into p h1 h2
    obtain ⟨r, r1, r2, e'⟩ := h.into q q1 q2
    exact ⟨r, r1, r2, e.trans e'⟩⟩
theorem Mv.wide {a b a' b' : Nat} {d d' : List Nat} (h : Mv a b d d') (ha : a' ≤ a) (hb : b ≤ b') : Mv a' b' d d' :=
  ⟨h.perm, fun p hp => h.out p (by omega), fun p h1 h2 => by
    by_cases hc : a ≤ p ∧ p < b
    · obtain ⟨q, q1, q2, e⟩ := h.into p hc.1 hc.2
      exact ⟨q, by omega, by omega, e⟩
    · exact ⟨p, h1, h2, h.out p (by omega)⟩⟩
theorem Mv.length {a b : Nat} {d d' : List Nat} (h : Mv a b d d') : d'.length = d.length := h.perm.length_eq
theorem Mv.swap {a b i j : Nat} {d : List Nat} (hi : a ≤ i) (hi' : i < b) (hj : a ≤ j) (hj' : j < b) (hb : b ≤ d.length) : Mv a b d (swapAt d i j) := by
  refine ⟨swapAt_perm (by omega) (by omega), fun p hp => ?_, fun p h1 h2 => ?_⟩
  · rw [swapAt_D (by omega) (by omega), if_neg (by omega), if_neg (by omega)]
  · rw [swapAt_D (by omega) (by omega)]
    by_cases e : p = j
    · exact ⟨i, hi, hi', by rw [if_pos e]⟩
    · by_cases e2 : p = i
      · exact ⟨j, hj, hj', by rw [if_neg e, if_pos e2]⟩
      · exact ⟨p, h1, h2, by rw [if_neg e, if_neg e2]⟩
theorem Rot.mv {d d' : List Nat} {a m b : Nat} (h : Rot d d' a m b) (h1 : a ≤ m) (h2 : m ≤ b) : Mv a b d d' :=
  ⟨h.perm, fun p hp => by rw [h.at' p]; unfold rotI; rw [if_neg (by omega), if_neg (by omega)], fun p p1 p2 => by
    refine ⟨rotI a m b p, ?_, ?_, h.at' p⟩ <;> (unfold rotI; split <;> (try split) <;> omega)⟩

/-- The order in which a stable sort puts things: by cf, and likes by what they are. -/
def T (cf : Nat → Nat → Int) (x y : Nat) : Prop := cf x y < 0 ∨ (¬ cf y x < 0 ∧ x < y)
structure Ord (cf : Nat → Nat → Int) (n : Nat) : Prop where
  asym : ∀ x y, x < n → y < n → cf x y < 0 → ¬ cf y x < 0
  trans : ∀ x y z, x < n → y < n → z < n → T cf x y → T cf y z → T cf x z
section
variable {cf : Nat → Nat → Int} {n : Nat}
theorem T_total {x y : Nat} (h : x ≠ y) : T cf x y ∨ T cf y x := by
  unfold T
  by_cases h1 : cf x y < 0
  · exact .inl (.inl h1)
  · by_cases h2 : cf y x < 0
    · exact .inr (.inl h2)
    · rcases Nat.lt_or_ge x y with h3 | h3
      · exact .inl (.inr ⟨h2, h3⟩)
      · exact .inr (.inr ⟨h1, by omega⟩)
theorem T_asym (o : Ord cf n) {x y : Nat} (hx : x < n) (hy : y < n) (h : T cf x y) : ¬ T cf y x := by
  rintro (h2 | ⟨h2, h3⟩)
  · rcases h with h | ⟨h, _⟩
    · exact o.asym _ _ hx hy h h2
    · exact h h2
  · rcases h with h | ⟨_, h⟩
    · exact h2 h
    · omega
theorem lt_T {x y : Nat} (h : x < y) : cf y x < 0 ↔ T cf y x := ⟨.inl, fun h2 => by
  rcases h2 with h2 | ⟨_, h2⟩
  · exact h2
  · omega⟩
theorem not_lt_T (o : Ord cf n) {x y : Nat} (hx : x < n) (hy : y < n) (h : x < y) : ¬ cf y x < 0 ↔ T cf x y := ⟨fun h2 => .inr ⟨h2, h⟩, fun h2 h3 => T_asym o hx hy h2 (.inl h3)⟩
/-- Sorted in [a, b). -/
def Srt (cf : Nat → Nat → Int) (a b : Nat) (d : List Nat) : Prop := ∀ p q, a ≤ p → p < q → q < b → T cf (D d p) (D d q)
end
end Go.Proofs.Ytifdpcjfjoekmaa
