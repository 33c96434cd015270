/-
  Stable sorting in place, in plain lists: an insertion, a merge, what they come to. No program in sight.
-/
import Derived.Test.YtifdpcjfjoekmaaA8
namespace Go.Proofs.Ytifdpcjfjoekmaa

section
variable {cf : Nat → Nat → Int} {N : Nat}
/-- All that is there is below N. -/
def Under (N : Nat) (d : List Nat) : Prop := ∀ x ∈ d, x < N
theorem Under.at' {d : List Nat} (h : Under N d) {p : Nat} (hp : p < d.length) : D d p < N := h _ (D_mem hp)
theorem Under.perm {d d' : List Nat} (h : Under N d) (hp : d'.Perm d) : Under N d' := fun x hx => h x (hp.mem_iff.1 hx)
theorem T_le {o : Ord cf N} {d : List Nat} (hu : Under N d) {a b p q : Nat} {x : Nat} (hb : b ≤ d.length) (hs : Srt cf a b d) (hx : x < N) (h1 : a ≤ p) (h2 : p ≤ q) (h3 : q < b) (ht : T cf (D d q) x) : T cf (D d p) x := by
  rcases Nat.lt_or_ge p q with h | h
  · exact o.trans _ _ _ (hu.at' (by omega)) (hu.at' (by omega)) hx (hs p q h1 h h3) ht
  · have : p = q := by omega
    subst this; exact ht
theorem T_ge {o : Ord cf N} {d : List Nat} (hu : Under N d) {a b p q : Nat} {x : Nat} (hb : b ≤ d.length) (hs : Srt cf a b d) (hx : x < N) (h1 : a ≤ p) (h2 : p ≤ q) (h3 : q < b) (ht : T cf x (D d p)) : T cf x (D d q) := by
  rcases Nat.lt_or_ge p q with h | h
  · exact o.trans _ _ _ hx (hu.at' (by omega)) (hu.at' (by omega)) ht (hs p q h1 h h3)
  · have : p = q := by omega
    subst this; exact ht

/-- What stood at i stands at j; those between have gone up by one place. -/
structure Ins (d d' : List Nat) (i j : Nat) : Prop where
  perm : d'.Perm d
  at' : ∀ p, D d' p = if p = j then D d i else if j < p ∧ p ≤ i then D d (p - 1) else D d p
theorem Ins.start (d : List Nat) (i : Nat) : Ins d d i i := ⟨List.Perm.refl _, fun p => by
  split
  · rename_i h; rw [h]
  · rw [if_neg (by omega)]⟩
theorem Ins.step {d d' : List Nat} {i j : Nat} (h : Ins d d' i j) (hj : 0 < j) (hi : j ≤ i) (hl : i < d.length) : Ins d (swapAt d' j (j - 1)) i (j - 1) := by
  have hl' := h.perm.length_eq
  refine ⟨(swapAt_perm (by omega) (by omega)).trans h.perm, fun p => ?_⟩
  rw [swapAt_D (by omega) (by omega), h.at' j, h.at' (j - 1), h.at' p]
  rw [if_pos rfl, if_neg (show ¬ (j - 1 = j) by omega), if_neg (show ¬ (j < j - 1 ∧ j - 1 ≤ i) by omega)]
  by_cases e1 : p = j - 1
  · rw [if_pos e1, if_pos e1]
  · rw [if_neg e1, if_neg e1]
    by_cases e2 : p = j
    · rw [if_pos e2, if_pos (by omega), e2]
    · rw [if_neg e2, if_neg e2]
      by_cases e3 : j < p ∧ p ≤ i
      · rw [if_pos e3, if_pos (by omega)]
      · rw [if_neg e3, if_neg (by omega)]
theorem Ins.mv {d d' : List Nat} {a i j : Nat} (h : Ins d d' i j) (ha : a ≤ j) (hj : j ≤ i) : Mv a (i + 1) d d' :=
  ⟨h.perm, fun p hp => by rw [h.at' p, if_neg (by omega), if_neg (by omega)], fun p h1 h2 => by
    rw [h.at' p]
    by_cases e1 : p = j
    · exact ⟨i, by omega, by omega, by rw [if_pos e1]⟩
    · by_cases e2 : j < p ∧ p ≤ i
      · exact ⟨p - 1, by omega, by omega, by rw [if_neg e1, if_pos e2]⟩
      · exact ⟨p, by omega, by omega, by rw [if_neg e1, if_neg e2]⟩⟩
theorem Ins.done (o : Ord cf N) {d d' : List Nat} {a i j : Nat} (h : Ins d d' i j) (hu : Under N d) (hl : i < d.length) (ha : a ≤ j) (hj : j ≤ i) (hs : Srt cf a i d)
    (hT : ∀ p, j ≤ p → p < i → T cf (D d i) (D d p)) (hlow : j = a ∨ T cf (D d (j - 1)) (D d i)) : Srt cf a (i + 1) d' := by
  intro p q h1 h2 h3
  rw [h.at' p, h.at' q]
  by_cases e1 : p = j
  · rw [if_pos e1, if_neg (by omega), if_pos (by omega)]
    exact hT _ (by omega) (by omega)
  · rw [if_neg e1]
    by_cases e2 : q = j
    · rw [if_pos e2, if_neg (by omega)]
      rcases hlow with h4 | h4
      · omega
      · exact T_le (o := o) hu (by omega) hs (hu.at' hl) h1 (by omega) (by omega) h4
    · rw [if_neg e2]
      by_cases e3 : j < p ∧ p ≤ i
      · rw [if_pos e3, if_pos (by omega)]
        exact hs _ _ (by omega) (by omega) (by omega)
      · rw [if_neg e3]
        by_cases e4 : j < q ∧ q ≤ i
        · rw [if_pos e4]
          rcases Nat.lt_or_ge p (q - 1) with h5 | h5
          · exact hs _ _ h1 h5 (by omega)
          · omega
        · rw [if_neg e4]
          exact hs _ _ h1 h2 (by omega)

/-- What stood at a stands at e; those between have gone down by one place. -/
structure Up (d d' : List Nat) (a e : Nat) : Prop where
  perm : d'.Perm d
  at' : ∀ p, D d' p = if p = e then D d a else if a ≤ p ∧ p < e then D d (p + 1) else D d p
theorem Up.start (d : List Nat) (a : Nat) : Up d d a a := ⟨List.Perm.refl _, fun p => by
  split
  · rename_i h; rw [h]
  · rw [if_neg (by omega)]⟩
theorem Up.step {d d' : List Nat} {a e : Nat} (h : Up d d' a e) (ha : a ≤ e) (hl : e + 1 < d.length) : Up d (swapAt d' e (e + 1)) a (e + 1) := by
  have hl' := h.perm.length_eq
  refine ⟨(swapAt_perm (by omega) (by omega)).trans h.perm, fun p => ?_⟩
  rw [swapAt_D (by omega) (by omega), h.at' e, h.at' (e + 1), h.at' p]
  rw [if_pos rfl, if_neg (show ¬ (e + 1 = e) by omega), if_neg (show ¬ (a ≤ e + 1 ∧ e + 1 < e) by omega)]
  by_cases e1 : p = e + 1
  · rw [if_pos e1, if_pos e1]
  · rw [if_neg e1, if_neg e1]
    by_cases e2 : p = e
    · rw [if_pos e2, if_pos (by omega), e2]
    · rw [if_neg e2, if_neg e2]
      by_cases e3 : a ≤ p ∧ p < e
      · rw [if_pos e3, if_pos (by omega)]
      · rw [if_neg e3, if_neg (by omega)]
theorem Up.mv {d d' : List Nat} {a e b : Nat} (h : Up d d' a e) (ha : a ≤ e) (hb : e < b) : Mv a b d d' :=
  ⟨h.perm, fun p hp => by rw [h.at' p, if_neg (by omega), if_neg (by omega)], fun p h1 h2 => by
    rw [h.at' p]
    by_cases e1 : p = e
    · exact ⟨a, by omega, by omega, by rw [if_pos e1]⟩
    · by_cases e2 : a ≤ p ∧ p < e
      · exact ⟨p + 1, by omega, by omega, by rw [if_neg e1, if_pos e2]⟩
      · exact ⟨p, by omega, by omega, by rw [if_neg e1, if_neg e2]⟩⟩
theorem Up.done (o : Ord cf N) {d d' : List Nat} {a e b : Nat} (h : Up d d' a e) (hu : Under N d) (hl : b ≤ d.length) (ha : a ≤ e) (hb : e < b) (hs : Srt cf (a + 1) b d)
    (hlo : ∀ q, a < q → q ≤ e → T cf (D d q) (D d a)) (hhi : ∀ q, e < q → q < b → T cf (D d a) (D d q)) : Srt cf a b d' := by
  intro p q h1 h2 h3
  rw [h.at' p, h.at' q]
  by_cases e1 : p = e
  · rw [if_pos e1, if_neg (by omega), if_neg (by omega)]
    exact hhi q (by omega) h3
  · rw [if_neg e1]
    by_cases e2 : q = e
    · rw [if_pos e2, if_pos (by omega)]
      exact hlo _ (by omega) (by omega)
    · rw [if_neg e2]
      by_cases e3 : a ≤ p ∧ p < e
      · rw [if_pos e3]
        by_cases e4 : a ≤ q ∧ q < e
        · rw [if_pos e4]; exact hs _ _ (by omega) (by omega) (by omega)
        · rw [if_neg e4]; exact hs _ _ (by omega) (by omega) (by omega)
      · rw [if_neg e3, if_neg (by omega)]
        exact hs _ _ (by omega) h2 h3

/-- Two sorted pieces, side by side; what stands in the left one was ahead. -/
structure Mrg (cf : Nat → Nat → Int) (N : Nat) (d : List Nat) (a m b : Nat) : Prop where
  am : a < m
  mb : m < b
  len : b ≤ d.length
  under : Under N d
  left : Srt cf a m d
  right : Srt cf m b d
  vals : ∀ p q, a ≤ p → p < m → m ≤ q → q < b → D d p < D d q
/-- What the search for the cut has found, so far: ahead of s, from r on. -/
structure Cut (cf : Nat → Nat → Int) (d : List Nat) (P lo hi s r : Nat) : Prop where
  h1 : lo ≤ s
  h2 : s ≤ r
  h3 : r ≤ hi
  low : ∀ c, lo ≤ c → c < s → T cf (D d c) (D d (P - c))
  high : ∀ c, r ≤ c → c < hi → T cf (D d (P - c)) (D d c)
def loOf (a m b : Nat) : Nat := if (a + b) / 2 < m then (a + b) / 2 + m - b else a
def hiOf (a m b : Nat) : Nat := if (a + b) / 2 < m then (a + b) / 2 else m
theorem lo_hi {a m b : Nat} (h1 : a < m) (h2 : m < b) : a ≤ loOf a m b ∧ loOf a m b ≤ hiOf a m b ∧ hiOf a m b ≤ m ∧ hiOf a m b ≤ (a + b) / 2 ∧ (a + b) / 2 + m - loOf a m b ≤ b ∧ (a + b) / 2 + m - b ≤ loOf a m b ∧ m ≤ (a + b) / 2 + m - hiOf a m b := by
  unfold loOf hiOf
  split <;> omega
theorem Cut.start {d : List Nat} {a m b : Nat} (h1 : a < m) (h2 : m < b) : Cut cf d ((a + b) / 2 + m - 1) (loOf a m b) (hiOf a m b) (loOf a m b) (hiOf a m b) :=
  ⟨Nat.le_refl _, (lo_hi h1 h2).2.1, Nat.le_refl _, fun c _ _ => by omega, fun c _ _ => by omega⟩
/-- Where c is looked at: places in the two pieces. -/
theorem cut_places {a m b c : Nat} (h1 : a < m) (h2 : m < b) (hc1 : loOf a m b ≤ c) (hc2 : c < hiOf a m b) : a ≤ c ∧ c < m ∧ m ≤ (a + b) / 2 + m - 1 - c ∧ (a + b) / 2 + m - 1 - c < b := by
  have := lo_hi h1 h2
  omega
theorem Cut.more (o : Ord cf N) {d : List Nat} {a m b s r c : Nat} (M : Mrg cf N d a m b) (h : Cut cf d ((a + b) / 2 + m - 1) (loOf a m b) (hiOf a m b) s r) (hc1 : s ≤ c) (hc2 : c < r) (ht : T cf (D d c) (D d ((a + b) / 2 + m - 1 - c))) :
    Cut cf d ((a + b) / 2 + m - 1) (loOf a m b) (hiOf a m b) (c + 1) r := by
  refine ⟨by have := h.h1; omega, hc2, h.h3, fun x x1 x2 => ?_, h.high⟩
  have c1 := cut_places M.am M.mb (c := c) (by have := h.h1; omega) (by have := h.h3; omega)
  have c2 := cut_places M.am M.mb (c := x) x1 (by have := h.h3; omega)
  have hl := M.len
  have t1 : T cf (D d x) (D d ((a + b) / 2 + m - 1 - c)) := T_le (o := o) M.under (by have := M.mb; omega) M.left (M.under.at' (by omega)) c2.1 (show x ≤ c by omega) c1.2.1 ht
  exact T_ge (o := o) M.under hl M.right (M.under.at' (by have := M.mb; omega)) c1.2.2.1 (by omega) c2.2.2.2 t1
theorem Cut.fewer (o : Ord cf N) {d : List Nat} {a m b s r c : Nat} (M : Mrg cf N d a m b) (h : Cut cf d ((a + b) / 2 + m - 1) (loOf a m b) (hiOf a m b) s r) (hc1 : s ≤ c) (hc2 : c < r) (ht : T cf (D d ((a + b) / 2 + m - 1 - c)) (D d c)) :
    Cut cf d ((a + b) / 2 + m - 1) (loOf a m b) (hiOf a m b) s c := by
  refine ⟨h.h1, hc1, by have := h.h3; omega, h.low, fun x x1 x2 => ?_⟩
  have c1 := cut_places M.am M.mb (c := c) (by have := h.h1; omega) (by have := h.h3; omega)
  have c2 := cut_places M.am M.mb (c := x) (by have := h.h1; omega) x2
  have hl := M.len
  have t1 : T cf (D d ((a + b) / 2 + m - 1 - x)) (D d c) := T_le (o := o) M.under hl M.right (M.under.at' (by have := M.mb; omega)) c2.2.2.1 (by omega) c1.2.2.2 ht
  exact T_ge (o := o) M.under (by have := M.mb; omega) M.left (M.under.at' (by omega)) c1.1 (show c ≤ x by omega) c2.2.1 t1

theorem Cut.one (o : Ord cf N) {d : List Nat} {a m b s : Nat} (M : Mrg cf N d a m b) (h : Cut cf d ((a + b) / 2 + m - 1) (loOf a m b) (hiOf a m b) s s) {p q : Nat} (hp : a ≤ p) (hp2 : p < s) (hq : (a + b) / 2 + m - s ≤ q) (hq2 : q < b) : T cf (D d p) (D d q) := by
  have hl := lo_hi M.am M.mb
  have h1 := h.h1
  have h3 := h.h3
  have hlen := M.len
  have hmb := M.mb
  have hlt : loOf a m b < s := by
    by_cases hc : (a + b) / 2 < m
    · have e : loOf a m b = (a + b) / 2 + m - b := if_pos hc
      omega
    · have e : loOf a m b = a := if_neg hc
      omega
  have c1 := cut_places M.am M.mb (c := s - 1) (by omega) (by omega)
  have t := h.low (s - 1) (by omega) (by omega)
  have t1 := T_le (o := o) M.under (by omega) M.left (M.under.at' (by omega)) hp (show p ≤ s - 1 by omega) c1.2.1 t
  exact T_ge (o := o) M.under hlen M.right (M.under.at' (by omega)) c1.2.2.1 (by omega) hq2 t1
theorem Cut.two (o : Ord cf N) {d : List Nat} {a m b s : Nat} (M : Mrg cf N d a m b) (h : Cut cf d ((a + b) / 2 + m - 1) (loOf a m b) (hiOf a m b) s s) {p q : Nat} (hq : m ≤ q) (hq2 : q < (a + b) / 2 + m - s) (hp : s ≤ p) (hp2 : p < m) : T cf (D d q) (D d p) := by
  have hl := lo_hi M.am M.mb
  have h1 := h.h1
  have h3 := h.h3
  have hlen := M.len
  have hmb := M.mb
  have hlt : s < hiOf a m b := by
    by_cases hc : (a + b) / 2 < m
    · have e : hiOf a m b = (a + b) / 2 := if_pos hc
      omega
    · have e : hiOf a m b = m := if_neg hc
      omega
  have c1 := cut_places M.am M.mb (c := s) (by omega) hlt
  have t := h.high s (Nat.le_refl _) hlt
  have t1 := T_le (o := o) M.under hlen M.right (M.under.at' (by omega)) hq (by omega) c1.2.2.2 t
  exact T_ge (o := o) M.under (by omega) M.left (M.under.at' (by omega)) c1.1 hp hp2 t1
/-- No rotation, where one piece is empty. -/
theorem Rot.none {d : List Nat} {s m e : Nat} (h1 : s ≤ m) (h2 : m ≤ e) (h : ¬ (s < m ∧ m < e)) : Rot d d s m e := ⟨List.Perm.refl _, fun p => by
  congr 1
  unfold rotI
  (repeat' split) <;> omega⟩

section
variable {d d1 : List Nat} {a m b s : Nat}
/-- Behind the rotation: the two halves. -/
theorem Mrg.halves (o : Ord cf N) (M : Mrg cf N d a m b) (h : Cut cf d ((a + b) / 2 + m - 1) (loOf a m b) (hiOf a m b) s s) (r : Rot d d1 s m ((a + b) / 2 + m - s)) :
    a ≤ s ∧ s ≤ (a + b) / 2 ∧ s ≤ m ∧ (a + b) / 2 ≤ (a + b) / 2 + m - s ∧ m ≤ (a + b) / 2 + m - s ∧ (a + b) / 2 + m - s ≤ b := by
  have hl := lo_hi M.am M.mb
  have h1 := h.h1
  have h3 := h.h3
  omega
theorem Mrg.low (o : Ord cf N) (M : Mrg cf N d a m b) (h : Cut cf d ((a + b) / 2 + m - 1) (loOf a m b) (hiOf a m b) s s) (r : Rot d d1 s m ((a + b) / 2 + m - s)) :
    (¬ (a < s ∧ s < (a + b) / 2) → Srt cf a ((a + b) / 2) d1) ∧ (a < s ∧ s < (a + b) / 2 → Mrg cf N d1 a s ((a + b) / 2)) := by
  have hv := M.halves o h r
  have hL : Srt cf a s d1 := fun p q p1 p2 p3 => by
    rw [r.at' p, r.at' q]
    unfold rotI
    rw [if_neg (by omega), if_neg (by omega), if_neg (by omega), if_neg (by omega)]
    exact M.left _ _ p1 p2 (by omega)
  have hR : Srt cf s ((a + b) / 2) d1 := fun p q p1 p2 p3 => by
    rw [r.at' p, r.at' q]
    unfold rotI
    rw [if_pos (by omega), if_pos (by omega)]
    exact M.right _ _ (by omega) (by omega) (by omega)
  refine ⟨fun hc => ?_, fun hc => ⟨hc.1, hc.2, ?_, M.under.perm r.perm, hL, hR, fun p q p1 p2 q1 q2 => ?_⟩⟩
  · rcases Nat.lt_or_ge a s with h5 | h5
    · have e : s = (a + b) / 2 := by omega
      rw [← e]; exact hL
    · have e : s = a := by omega
      rw [← e]; rw [e]; rw [e] at hR; exact hR
  · rw [r.perm.length_eq]; have := M.len; have := M.mb; omega
  · rw [r.at' p, r.at' q]
    unfold rotI
    rw [if_neg (by omega), if_neg (by omega), if_pos (by omega)]
    exact M.vals _ _ p1 (by omega) (by omega) (by omega)
theorem Mrg.high (o : Ord cf N) {d2 : List Nat} (M : Mrg cf N d a m b) (h : Cut cf d ((a + b) / 2 + m - 1) (loOf a m b) (hiOf a m b) s s) (r : Rot d d1 s m ((a + b) / 2 + m - s)) (v : Mv a ((a + b) / 2) d1 d2) :
    (¬ ((a + b) / 2 < (a + b) / 2 + m - s ∧ (a + b) / 2 + m - s < b) → Srt cf ((a + b) / 2) b d2) ∧ ((a + b) / 2 < (a + b) / 2 + m - s ∧ (a + b) / 2 + m - s < b → Mrg cf N d2 ((a + b) / 2) ((a + b) / 2 + m - s) b) := by
  have hv := M.halves o h r
  have hmb := M.mb
  have hL : Srt cf ((a + b) / 2) ((a + b) / 2 + m - s) d2 := fun p q p1 p2 p3 => by
    rw [v.out p (by omega), v.out q (by omega), r.at' p, r.at' q]
    unfold rotI
    rw [if_neg (by omega), if_pos (by omega), if_neg (by omega), if_pos (by omega)]
    exact M.left _ _ (by omega) (by omega) (by omega)
  have hR : Srt cf ((a + b) / 2 + m - s) b d2 := fun p q p1 p2 p3 => by
    rw [v.out p (by omega), v.out q (by omega), r.at' p, r.at' q]
    unfold rotI
    rw [if_neg (by omega), if_neg (by omega), if_neg (by omega), if_neg (by omega)]
    exact M.right _ _ (by omega) (by omega) (by omega)
  refine ⟨fun hc => ?_, fun hc => ⟨hc.1, hc.2, ?_, (M.under.perm r.perm).perm v.perm, hL, hR, fun p q p1 p2 q1 q2 => ?_⟩⟩
  · rcases Nat.lt_or_ge ((a + b) / 2) ((a + b) / 2 + m - s) with h5 | h5
    · have e : (a + b) / 2 + m - s = b := by omega
      rw [e] at hL; exact hL
    · have e : (a + b) / 2 + m - s = (a + b) / 2 := by omega
      rw [e] at hR; exact hR
  · rw [v.perm.length_eq, r.perm.length_eq]; exact M.len
  · rw [v.out p (by omega), v.out q (by omega), r.at' p, r.at' q]
    unfold rotI
    rw [if_neg (by omega), if_pos (by omega), if_neg (by omega), if_neg (by omega)]
    exact M.vals _ _ (by omega) (by omega) (by omega) (by omega)
/-- The whole is in order. -/
theorem Mrg.whole (o : Ord cf N) {d2 d3 : List Nat} (M : Mrg cf N d a m b) (h : Cut cf d ((a + b) / 2 + m - 1) (loOf a m b) (hiOf a m b) s s) (r : Rot d d1 s m ((a + b) / 2 + m - s)) (v : Mv a ((a + b) / 2) d1 d2) (u : Mv ((a + b) / 2) b d2 d3)
    (s1 : Srt cf a ((a + b) / 2) d2) (s2 : Srt cf ((a + b) / 2) b d3) : Srt cf a b d3 ∧ Mv a b d d3 := by
  have hv := M.halves o h r
  have hmb := M.mb
  have ham := M.am
  refine ⟨fun p q p1 p2 p3 => ?_, ((r.mv hv.2.2.1 (by omega)).wide hv.1 hv.2.2.2.2.2).trans ((v.wide (Nat.le_refl _) (by omega)).trans (u.wide (by omega) (Nat.le_refl _)))⟩
  by_cases c1 : q < (a + b) / 2
  · rw [u.out p (by omega), u.out q (by omega)]; exact s1 p q p1 p2 c1
  · by_cases c2 : (a + b) / 2 ≤ p
    · exact s2 p q c2 p2 p3
    · rw [u.out p (by omega)]
      obtain ⟨p', p4, p5, e1⟩ := v.into p p1 (by omega)
      obtain ⟨q', q4, q5, e2⟩ := u.into q (by omega) p3
      rw [e1, e2, v.out q' (by omega), r.at' p', r.at' q']
      have hp : rotI s m ((a + b) / 2 + m - s) p' = p' ∧ p' < s ∨ m ≤ rotI s m ((a + b) / 2 + m - s) p' ∧ rotI s m ((a + b) / 2 + m - s) p' < (a + b) / 2 + m - s := by
        unfold rotI; (repeat' split) <;> omega
      have hq : (s ≤ rotI s m ((a + b) / 2 + m - s) q' ∧ rotI s m ((a + b) / 2 + m - s) q' < m) ∨ ((a + b) / 2 + m - s ≤ rotI s m ((a + b) / 2 + m - s) q' ∧ rotI s m ((a + b) / 2 + m - s) q' < b) := by
        unfold rotI; (repeat' split) <;> omega
      generalize rotI s m ((a + b) / 2 + m - s) p' = x at *
      generalize rotI s m ((a + b) / 2 + m - s) q' = y at *
      rcases hp with ⟨hp, hp2⟩ | hp <;> rcases hq with hq | hq
      · exact M.left _ _ (by omega) (by omega) hq.2
      · exact h.one o M (by omega) (by omega) hq.1 hq.2
      · exact h.two o M hp.1 hp.2 hq.1 hq.2
      · exact M.right _ _ hp.1 (by omega) hq.2
end
end
end Go.Proofs.Ytifdpcjfjoekmaa
