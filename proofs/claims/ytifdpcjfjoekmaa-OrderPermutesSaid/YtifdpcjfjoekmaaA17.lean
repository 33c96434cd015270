/-
  Rows by keys: the comparison is an order. No program in sight.
-/
import Derived.Test.YtifdpcjfjoekmaaA7
import Derived.Test.YtifdpcjfjoekmaaA10
namespace Go.Proofs.Ytifdpcjfjoekmaa

/-- A comparison that is an order, on those of which S holds. -/
structure Pre {α : Type} (S : α → Prop) (c : α → α → Int) : Prop where
  anti : ∀ x y, S x → S y → c y x = -c x y
  trans : ∀ x y z, S x → S y → S z → c x y ≤ 0 → c y z ≤ 0 → c x z ≤ 0
section
variable {α β : Type} {S : α → Prop} {c : α → α → Int}
theorem Pre.strict (h : Pre S c) {x y z : α} (hx : S x) (hy : S y) (hz : S z) (h1 : c x y ≤ 0) (h2 : c y z ≤ 0) (h3 : c x y < 0 ∨ c y z < 0) : c x z < 0 := by
  have h4 := h.trans x y z hx hy hz h1 h2
  rcases Int.lt_or_le (c x z) 0 with h5 | h5
  · exact h5
  · have a1 := h.anti x z hx hz
    have a2 := h.anti x y hx hy
    have a3 := h.anti y z hy hz
    have t1 := h.trans y z x hy hz hx h2 (by omega)
    have t2 := h.trans z x y hz hx hy (by omega) h1
    omega
theorem Pre.map (h : Pre S c) (f : β → α) : Pre (fun x => S (f x)) (fun x y => c (f x) (f y)) := ⟨fun x y hx hy => h.anti _ _ hx hy, fun x y z hx hy hz => h.trans _ _ _ hx hy hz⟩
theorem Pre.weak {S' : α → Prop} (h : Pre S c) (hs : ∀ x, S' x → S x) : Pre S' c := ⟨fun x y hx hy => h.anti _ _ (hs _ hx) (hs _ hy), fun x y z hx hy hz => h.trans _ _ _ (hs _ hx) (hs _ hy) (hs _ hz)⟩
theorem Pre.neg (h : Pre S c) : Pre S (fun x y => -c x y) := ⟨fun x y hx hy => by
  have := h.anti x y hx hy
  show -c y x = - -c x y
  omega, fun x y z hx hy hz h1 h2 => by
  have a1 := h.anti x y hx hy
  have a2 := h.anti y z hy hz
  have a3 := h.anti x z hx hz
  have := h.trans z y x hz hy hx (by omega) (by omega)
  show -c x z ≤ 0
  omega⟩
theorem Pre.lex {d : α → α → Int} (h : Pre S c) (k : Pre S d) : Pre S (fun x y => if c x y ≠ 0 then c x y else d x y) := ⟨fun x y hx hy => by
  have a1 := h.anti x y hx hy
  have a2 := k.anti x y hx hy
  show (if c y x ≠ 0 then c y x else d y x) = -(if c x y ≠ 0 then c x y else d x y)
  split <;> split <;> omega, fun x y z hx hy hz h1 h2 => by
  have e : ∀ u v, (if c u v ≠ 0 then c u v else d u v) ≤ 0 → c u v ≤ 0 ∧ (c u v = 0 → d u v ≤ 0) := fun u v hh => by
    split at hh
    · exact ⟨hh, fun e => by omega⟩
    · exact ⟨by omega, fun _ => hh⟩
  obtain ⟨b1, b2⟩ := e _ _ h1
  obtain ⟨b3, b4⟩ := e _ _ h2
  have t := h.trans x y z hx hy hz b1 b3
  split
  · exact t
  · by_cases s : c x y < 0 ∨ c y z < 0
    · have := h.strict hx hy hz b1 b3 s; omega
    · exact k.trans x y z hx hy hz (b2 (by omega)) (b4 (by omega))⟩
end
theorem pre_cmp3 : Pre (fun _ : Int => True) cmp3 := ⟨fun x y _ _ => by unfold cmp3; split <;> split <;> first | omega | (split <;> omega), fun x y z _ _ _ h1 h2 => by
  unfold cmp3 at *
  split at h1 <;> split at h2 <;> split <;> first | omega | (split at h1 <;> first | omega | (split at h2 <;> omega)) | (split <;> first | omega | (split at h1 <;> first | omega | (split at h2 <;> omega)))⟩
theorem pre_truth : Pre (fun _ : Bool => True) truthR := ⟨fun x y _ _ => by cases x <;> cases y <;> decide, fun x y z _ _ _ => by cases x <;> cases y <;> cases z <;> decide⟩
theorem bytes_anti : ∀ (a b : List UInt8), Lib.compareBytes b a = -Lib.compareBytes a b
  | [], [] => by decide
  | [], _ :: _ => by unfold Lib.compareBytes; decide
  | _ :: _, [] => by unfold Lib.compareBytes; decide
  | a :: l, b :: m => by
    have ih := bytes_anti l m
    unfold Lib.compareBytes
    by_cases h1 : a < b
    · have h2 : ¬ b < a := by rw [UInt8.lt_iff_toNat_lt] at *; omega
      rw [if_neg h2, if_pos h1, if_pos h1]; rfl
    · by_cases h2 : b < a
      · rw [if_pos h2, if_neg h1, if_pos h2]
      · rw [if_neg h2, if_neg h1, if_neg h1, if_neg h2]; exact ih
theorem bytes_trans : ∀ (a b c : List UInt8), Lib.compareBytes a b ≤ 0 → Lib.compareBytes b c ≤ 0 → Lib.compareBytes a c ≤ 0
  | [], _, [] => by intro _ _; decide
  | [], _, _ :: _ => by intro _ _; unfold Lib.compareBytes; decide
  | _ :: _, [], _ => by intro h; unfold Lib.compareBytes at h; exact absurd h (by decide)
  | _ :: _, _ :: _, [] => by intro _ h; unfold Lib.compareBytes at h; exact absurd h (by decide)
  | a :: l, b :: m, c :: k => by
    have ih := bytes_trans l m k
    unfold Lib.compareBytes
    intro h1 h2
    by_cases x1 : a < b
    · by_cases x2 : b < c
      · have : a < c := by rw [UInt8.lt_iff_toNat_lt] at *; omega
        rw [if_pos this]; decide
      · rw [if_neg x2] at h2
        by_cases x3 : c < b
        · rw [if_pos x3] at h2; exact absurd h2 (by decide)
        · have : a < c := by rw [UInt8.lt_iff_toNat_lt] at *; omega
          rw [if_pos this]; decide
    · rw [if_neg x1] at h1
      by_cases x4 : b < a
      · rw [if_pos x4] at h1; exact absurd h1 (by decide)
      · rw [if_neg x4] at h1
        by_cases x2 : b < c
        · have : a < c := by rw [UInt8.lt_iff_toNat_lt] at *; omega
          rw [if_pos this]; decide
        · rw [if_neg x2] at h2
          by_cases x3 : c < b
          · rw [if_pos x3] at h2; exact absurd h2 (by decide)
          · rw [if_neg x3] at h2
            have y1 : ¬ a < c := by rw [UInt8.lt_iff_toNat_lt] at *; omega
            have y2 : ¬ c < a := by rw [UInt8.lt_iff_toNat_lt] at *; omega
            rw [if_neg y1, if_neg y2]
            exact ih h1 h2
theorem pre_bytes : Pre (fun _ : List UInt8 => True) Lib.compareBytes := ⟨fun x y _ _ => bytes_anti x y, fun x y z _ _ _ => bytes_trans x y z⟩
theorem pre_kind (k : Int) : Pre (fun v : Val => v.kind = k) byKind := by
  have aux : ∀ c : Val → Val → Int, (∀ x y : Val, x.kind = k → byKind x y = c x y) → Pre (fun v : Val => v.kind = k) c → Pre (fun v : Val => v.kind = k) byKind := fun c hc h =>
    ⟨fun x y hx hy => by rw [hc x y hx, hc y x hy]; exact h.anti x y hx hy, fun x y z hx hy hz h1 h2 => by rw [hc x z hx]; rw [hc x y hx] at h1; rw [hc y z hy] at h2; exact h.trans x y z hx hy hz h1 h2⟩
  by_cases h1 : k = 1
  · exact aux (fun x y => cmp3 (keyN x.mant x.exp) (keyN y.mant y.exp)) (fun x y hx => by unfold byKind; rw [if_pos (hx.trans h1)]) ((pre_cmp3.map (fun v : Val => keyN v.mant v.exp)).weak (fun _ _ => trivial))
  by_cases h2 : k = 2
  · exact aux (fun x y => Lib.compareBytes (foldB x.text).data.toList (foldB y.text).data.toList) (fun x y hx => by unfold byKind; rw [if_neg (by omega), if_pos (hx.trans h2)]) ((pre_bytes.map (fun v : Val => (foldB v.text).data.toList)).weak (fun _ _ => trivial))
  by_cases h3 : k = 3
  · exact aux (fun x y => truthR x.truth y.truth) (fun x y hx => by unfold byKind; rw [if_neg (by omega), if_neg (by omega), if_pos (hx.trans h3)]) ((pre_truth.map Val.truth).weak (fun _ _ => trivial))
  by_cases h4 : k = 4
  · exact aux (fun x y => cmp3 x.fault y.fault) (fun x y hx => by unfold byKind; rw [if_neg (by omega), if_neg (by omega), if_neg (by omega), if_pos (hx.trans h4)]) ((pre_cmp3.map Val.fault).weak (fun _ _ => trivial))
  · exact aux (fun _ _ => 0) (fun x y hx => by unfold byKind; rw [if_neg (by omega), if_neg (by omega), if_neg (by omega), if_neg (by omega)]) ⟨fun _ _ _ _ => rfl, fun _ _ _ _ _ _ _ _ => Int.le_refl _⟩
theorem cmp3_le {a b : Int} : cmp3 a b ≤ 0 ↔ a ≤ b := by unfold cmp3; split <;> (try split) <;> omega
theorem pre_valCmp : Pre (fun _ : Val => True) valCmp := ⟨fun x y _ _ => by
  unfold valCmp
  by_cases h : x.kind = y.kind
  · rw [if_neg (by simp [h]), if_neg (by simp [h])]
    exact (pre_kind y.kind).anti x y h rfl
  · rw [if_pos (fun e => h e.symm), if_pos h]
    exact pre_cmp3.anti _ _ trivial trivial, fun x y z _ _ _ h1 h2 => by
  unfold valCmp at *
  by_cases e1 : x.kind = y.kind
  · by_cases e2 : y.kind = z.kind
    · rw [if_neg (by simp [e1])] at h1
      rw [if_neg (by simp [e2])] at h2
      rw [if_neg (by simp [e1, e2])]
      exact (pre_kind z.kind).trans x y z (e1.trans e2) e2 rfl h1 h2
    · rw [if_pos e2] at h2
      rw [if_pos (by rw [e1]; exact e2), e1]
      exact h2
  · rw [if_pos e1] at h1
    have l1 := cmp3_le.1 h1
    by_cases e2 : y.kind = z.kind
    · rw [if_pos (by rw [← e2]; exact e1), ← e2]
      exact h1
    · rw [if_pos e2] at h2
      have l2 := cmp3_le.1 h2
      rw [if_pos (by omega)]
      exact cmp3_le.2 (by omega)⟩
/-- By a key: downward, but for blanks. -/
def keyC (down : Bool) (a b : Val) : Int := if down = true ∧ a.kind ≠ 0 ∧ b.kind ≠ 0 then -valOrd a b else valOrd a b
theorem valOrd_non {a b : Val} (ha : a.kind ≠ 0) (hb : b.kind ≠ 0) : valOrd a b = valCmp a b := by unfold valOrd; rw [if_neg (fun h => ha h.1), if_neg ha, if_neg hb]
theorem valOrd_l {a b : Val} (ha : a.kind = 0) (hb : b.kind ≠ 0) : valOrd a b = 1 := by unfold valOrd; rw [if_neg (fun h => hb h.2), if_pos ha]
theorem valOrd_r {a b : Val} (ha : a.kind ≠ 0) (hb : b.kind = 0) : valOrd a b = -1 := by unfold valOrd; rw [if_neg (fun h => ha h.1), if_neg ha, if_pos hb]
theorem valOrd_b {a b : Val} (ha : a.kind = 0) (hb : b.kind = 0) : valOrd a b = 0 := by unfold valOrd; rw [if_pos ⟨ha, hb⟩]
theorem keyC_l (w : Bool) {a b : Val} (ha : a.kind = 0) (hb : b.kind ≠ 0) : keyC w a b = 1 := by unfold keyC; rw [if_neg (fun h => h.2.1 ha), valOrd_l ha hb]
theorem keyC_r (w : Bool) {a b : Val} (ha : a.kind ≠ 0) (hb : b.kind = 0) : keyC w a b = -1 := by unfold keyC; rw [if_neg (fun h => h.2.2 hb), valOrd_r ha hb]
theorem keyC_b (w : Bool) {a b : Val} (ha : a.kind = 0) (hb : b.kind = 0) : keyC w a b = 0 := by unfold keyC; rw [if_neg (fun h => h.2.1 ha), valOrd_b ha hb]
theorem keyC_non (w : Bool) {a b : Val} (ha : a.kind ≠ 0) (hb : b.kind ≠ 0) : keyC w a b = if w then -valCmp a b else valCmp a b := by
  unfold keyC; rw [valOrd_non ha hb]; cases w
  · rw [if_neg (fun h => by cases h.1)]; rfl
  · rw [if_pos ⟨rfl, ha, hb⟩]; rfl
theorem pre_dir (w : Bool) : Pre (fun _ : Val => True) (fun a b => if w then -valCmp a b else valCmp a b) := by
  cases w
  · exact pre_valCmp
  · exact pre_valCmp.neg
theorem pre_key (w : Bool) : Pre (fun _ : Val => True) (keyC w) := ⟨fun x y _ _ => by
  by_cases hx : x.kind = 0 <;> by_cases hy : y.kind = 0
  · rw [keyC_b w hx hy, keyC_b w hy hx]; rfl
  · rw [keyC_l w hx hy, keyC_r w hy hx]
  · rw [keyC_r w hx hy, keyC_l w hy hx]; rfl
  · rw [keyC_non w hx hy, keyC_non w hy hx]; exact (pre_dir w).anti x y trivial trivial, fun x y z _ _ _ h1 h2 => by
  by_cases hx : x.kind = 0
  · by_cases hy : y.kind = 0
    · by_cases hz : z.kind = 0
      · rw [keyC_b w hx hz]; decide
      · rw [keyC_l w hy hz] at h2; exact absurd h2 (by decide)
    · rw [keyC_l w hx hy] at h1; exact absurd h1 (by decide)
  · by_cases hz : z.kind = 0
    · rw [keyC_r w hx hz]; decide
    · by_cases hy : y.kind = 0
      · rw [keyC_l w hy hz] at h2; exact absurd h2 (by decide)
      · rw [keyC_non w hx hy] at h1
        rw [keyC_non w hy hz] at h2
        rw [keyC_non w hx hz]
        exact (pre_dir w).trans x y z trivial trivial trivial h1 h2⟩
theorem pre_cmpK : ∀ ks : List KeyD, Pre (fun _ : List Val => True) (fun x y => cmpK x y ks)
  | [] => ⟨fun _ _ _ _ => rfl, fun _ _ _ _ _ _ _ _ => Int.le_refl _⟩
  | k :: ks => Pre.lex (c := fun x y => cmp1 x y k) (d := fun x y => cmpK x y ks) (((pre_key k.down).map (fun l : List Val => atV l k.col)).weak (fun _ _ => trivial)) (pre_cmpK ks)
/-- An order on rows makes an order on their places. -/
theorem ord_of {c : List Val → List Val → Int} (h : Pre (fun _ : List Val => True) c) (f : Nat → List Val) (n : Nat) : Ord (fun i j => c (f i) (f j)) n := by
  have a := fun x y => h.anti (f x) (f y) trivial trivial
  refine ⟨fun x y _ _ h1 => by have := a x y; omega, fun x y z _ _ _ h1 h2 => ?_⟩
  have key : ∀ u v, T (fun i j => c (f i) (f j)) u v → c (f u) (f v) ≤ 0 ∧ (c (f u) (f v) < 0 ∨ u < v) := fun u v hh => by
    have := a u v
    rcases hh with hh | ⟨hh, hl⟩
    · dsimp only at hh; exact ⟨by omega, .inl hh⟩
    · dsimp only at hh; exact ⟨by omega, .inr hl⟩
  obtain ⟨b1, b2⟩ := key _ _ h1
  obtain ⟨b3, b4⟩ := key _ _ h2
  by_cases s : c (f x) (f y) < 0 ∨ c (f y) (f z) < 0
  · exact .inl (h.strict trivial trivial trivial b1 b3 s)
  · have t := h.trans _ _ _ trivial trivial trivial b1 b3
    have := a x z
    by_cases t2 : c (f x) (f z) < 0
    · exact .inl t2
    · exact .inr ⟨by dsimp only; omega, by omega⟩
end Go.Proofs.Ytifdpcjfjoekmaa
