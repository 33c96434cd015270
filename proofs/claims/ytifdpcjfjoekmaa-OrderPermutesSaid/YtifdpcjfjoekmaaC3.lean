/-
  Plain laws of digits: their value, sums and differences digit by digit. No program.
-/
namespace Go.Proofs.Ytifdpcjfjoekmaa
/-- The value of digits, the first one first. -/
def vl : List Nat → Nat
  | [] => 0
  | d :: ds => d * 10 ^ ds.length + vl ds
theorem vl_nil : vl [] = 0 := rfl
theorem vl_cons (d : Nat) (ds : List Nat) : vl (d :: ds) = d * 10 ^ ds.length + vl ds := rfl
theorem vl_append : ∀ (a b : List Nat), vl (a ++ b) = vl a * 10 ^ b.length + vl b
  | [], b => by simp [vl]
  | d :: a, b => by
    rw [List.cons_append, vl_cons, vl_cons, vl_append a b, List.length_append, Nat.pow_add, Nat.add_mul, Nat.mul_assoc, Nat.add_assoc]
theorem vl_zeros (k : Nat) : vl (List.replicate k 0) = 0 := by
  induction k with
  | zero => rfl
  | succ k ih => rw [List.replicate_succ, vl_cons, ih]; simp
theorem vl_wide (a : List Nat) (k : Nat) : vl (a ++ List.replicate k 0) = vl a * 10 ^ k := by
  rw [vl_append, vl_zeros, List.length_replicate]; rfl
theorem vl_high (a : List Nat) (k : Nat) : vl (List.replicate k 0 ++ a) = vl a := by
  rw [vl_append, vl_zeros]; simp
def Dig (l : List Nat) : Prop := ∀ d ∈ l, d ≤ 9
theorem vl_lt : ∀ (l : List Nat), Dig l → vl l < 10 ^ l.length
  | [], _ => by decide
  | d :: l, h => by
    have h1 := vl_lt l (fun x hx => h x (List.mem_cons_of_mem _ hx))
    have h2 := h d (by simp)
    rw [vl_cons, List.length_cons, Nat.pow_succ]
    have : d * 10 ^ l.length ≤ 9 * 10 ^ l.length := Nat.mul_le_mul_right _ h2
    omega
/-- Digits less than others, as many: the first unlike ones decide. -/
def lessL : List Nat → List Nat → Bool
  | x :: xs, y :: ys => if x = y then lessL xs ys else decide (x < y)
  | _, _ => false
theorem lessL_spec : ∀ (x y : List Nat), x.length = y.length → Dig x → Dig y → (lessL x y = true ↔ vl x < vl y)
  | [], [], _, _, _ => by simp [lessL, vl]
  | [], _ :: _, h, _, _ => by simp at h
  | _ :: _, [], h, _, _ => by simp at h
  | a :: x, b :: y, h, hx, hy => by
    have hl : x.length = y.length := by simpa using h
    have hx' : Dig x := fun z hz => hx z (List.mem_cons_of_mem _ hz)
    have hy' : Dig y := fun z hz => hy z (List.mem_cons_of_mem _ hz)
    have ih := lessL_spec x y hl hx' hy'
    have bx := vl_lt x hx'
    have byy := vl_lt y hy'
    rw [vl_cons, vl_cons, hl]
    rw [hl] at bx
    unfold lessL
    split
    · rename_i e
      subst e
      rw [ih]; omega
    · rename_i e
      rw [decide_eq_true_eq]
      generalize 10 ^ y.length = p at *
      constructor
      · intro hlt
        have : (a + 1) * p ≤ b * p := Nat.mul_le_mul_right _ hlt
        rw [Nat.add_mul] at this
        omega
      · intro hlt
        rcases Nat.lt_or_ge a b with h | h
        · exact h
        · have : (b + 1) * p ≤ a * p := Nat.mul_le_mul_right _ (by omega)
          rw [Nat.add_mul] at this
          omega
/-- What is written is at one place; what is behind stays. -/
theorem drop_set_eq (o : List Nat) (j v : Nat) (h : j < o.length) : (o.set j v).drop j = v :: o.drop (j + 1) := by
  rw [List.drop_eq_getElem_cons (by simpa using h), List.getElem_set_self, List.drop_set]
  simp
theorem dig_set {o : List Nat} (h : Dig o) (j v : Nat) (hv : v ≤ 9) : Dig (o.set j v) := fun d hd => by
  rcases List.mem_or_eq_of_mem_set hd with h1 | h1
  · exact h d h1
  · omega
theorem dig_append {a b : List Nat} (ha : Dig a) (hb : Dig b) : Dig (a ++ b) := fun d hd => by
  rcases List.mem_append.1 hd with h | h
  · exact ha d h
  · exact hb d h
theorem dig_zeros (k : Nat) : Dig (List.replicate k 0) := fun d hd => by
  have := List.eq_of_mem_replicate hd
  omega
theorem vl_drop {x : List Nat} {n j a : Nat} (hn : x.length = n) (h : x[j]? = some a) : vl (x.drop j) = a * 10 ^ (n - (j + 1)) + vl (x.drop (j + 1)) := by
  obtain ⟨h1, h2⟩ := List.getElem?_eq_some_iff.1 h
  rw [List.drop_eq_getElem_cons h1, vl_cons, List.length_drop, h2, hn]
theorem dig_at {x : List Nat} {j a : Nat} (hx : Dig x) (h : x[j]? = some a) : a ≤ 9 := hx a (List.mem_of_getElem? h)
/-- The sum so far: from place j on, with a carry. -/
def SumAt (x y o : List Nat) (n j c : Nat) : Prop := o.length = n + 1 ∧ Dig o ∧ c ≤ 1 ∧ vl (x.drop j) + vl (y.drop j) = c * 10 ^ (n - j) + vl (o.drop (j + 1))
theorem SumAt.start (x y : List Nat) (n : Nat) (hx : x.length = n) (hy : y.length = n) : SumAt x y (List.replicate (n + 1) 0) n n 0 := by
  refine ⟨by simp, dig_zeros _, by omega, ?_⟩
  rw [List.drop_of_length_le (by omega), List.drop_of_length_le (by omega), List.drop_of_length_le (by simp)]
  simp [vl]
theorem SumAt.step {x y o : List Nat} {n j c a b : Nat} (hx : x.length = n) (hy : y.length = n) (dx : Dig x) (dy : Dig y) (ha : x[j]? = some a) (hb : y[j]? = some b) (hj : j + 1 ≤ n) (h : SumAt x y o n (j + 1) c) :
    SumAt x y (o.set (j + 1) ((a + b + c) % 10)) n j ((a + b + c) / 10) := by
  obtain ⟨h1, h2, h3, h4⟩ := h
  have a1 := dig_at dx ha
  have a2 := dig_at dy hb
  refine ⟨by simpa using h1, dig_set h2 _ _ (by omega), by omega, ?_⟩
  rw [drop_set_eq _ _ _ (by omega), vl_cons, List.length_drop, h1, vl_drop hx ha, vl_drop hy hb]
  rw [show n + 1 - (j + 1 + 1) = n - (j + 1) by omega, show n - j = (n - (j + 1)) + 1 by omega, Nat.pow_succ]
  generalize 10 ^ (n - (j + 1)) = p at *
  have e : a + b + c = 10 * ((a + b + c) / 10) + (a + b + c) % 10 := (Nat.div_add_mod _ _).symm
  generalize (a + b + c) / 10 = q at *
  generalize (a + b + c) % 10 = r at *
  have e2 : (a + b + c) * p = (10 * q + r) * p := by rw [e]
  rw [Nat.add_mul, Nat.add_mul, Nat.add_mul] at e2
  have e3 : q * (p * 10) = 10 * q * p := by rw [Nat.mul_comm 10 q, Nat.mul_assoc, Nat.mul_comm p 10]
  omega
theorem SumAt.done {x y o : List Nat} {n c : Nat} (h : SumAt x y o n 0 c) : vl (o.set 0 c) = vl x + vl y ∧ Dig (o.set 0 c) := by
  obtain ⟨h1, h2, h3, h4⟩ := h
  refine ⟨?_, dig_set h2 _ _ (by omega)⟩
  have := drop_set_eq o 0 c (by omega)
  rw [List.drop_zero] at this
  rw [this, vl_cons, List.length_drop, h1]
  simp only [List.drop_zero] at h4
  rw [h4]
  simp
/-- The difference so far, with a borrow. -/
def DiffAt (x y o : List Nat) (n j c : Nat) : Prop := o.length = n + 1 ∧ Dig o ∧ c ≤ 1 ∧ o.take (j + 1) = List.replicate (j + 1) 0 ∧ vl (x.drop j) + c * 10 ^ (n - j) = vl (y.drop j) + vl (o.drop (j + 1))
theorem DiffAt.start (x y : List Nat) (n : Nat) (hx : x.length = n) (hy : y.length = n) : DiffAt x y (List.replicate (n + 1) 0) n n 0 := by
  refine ⟨by simp, dig_zeros _, by omega, by simp, ?_⟩
  rw [List.drop_of_length_le (by omega), List.drop_of_length_le (by omega), List.drop_of_length_le (by simp)]
  simp [vl]
/-- One step: d is the digit, b the borrow from the next place. -/
theorem DiffAt.step {x y o : List Nat} {n j c d b a e : Nat} (hx : x.length = n) (hy : y.length = n) (ha : x[j]? = some a) (hb' : y[j]? = some e) (hj : j + 1 ≤ n) (h : DiffAt x y o n (j + 1) c) (hb : b ≤ 1) (hd : d ≤ 9)
    (he : a + 10 * b = e + c + d) : DiffAt x y (o.set (j + 1) d) n j b := by
  obtain ⟨h1, h2, h3, h5, h4⟩ := h
  refine ⟨by simpa using h1, dig_set h2 _ _ (by omega), by omega, ?_, ?_⟩
  · rw [List.take_set_of_le (by omega)]
    have := congrArg (List.take (j + 1)) h5
    rw [List.take_take, List.take_replicate] at this
    rw [show min (j + 1) (j + 1 + 1) = j + 1 by omega] at this
    exact this
  · rw [drop_set_eq _ _ _ (by omega), vl_cons, List.length_drop, h1, vl_drop hx ha, vl_drop hy hb']
    rw [show n + 1 - (j + 1 + 1) = n - (j + 1) by omega, show n - j = (n - (j + 1)) + 1 by omega, Nat.pow_succ]
    generalize 10 ^ (n - (j + 1)) = p at *
    have e2 : (a + 10 * b) * p = (e + c + d) * p := by rw [he]
    rw [Nat.add_mul, Nat.add_mul, Nat.add_mul] at e2
    have e3 : b * (p * 10) = 10 * b * p := by rw [Nat.mul_comm 10 b, Nat.mul_assoc, Nat.mul_comm p 10]
    omega
theorem DiffAt.done {x y o : List Nat} {n c : Nat} (hle : vl y ≤ vl x) (h : DiffAt x y o n 0 c) : vl o = vl x - vl y := by
  obtain ⟨h1, h2, h3, h5, h4⟩ := h
  simp only [List.drop_zero, Nat.sub_zero, Nat.zero_add] at h4 h5
  have ho : o = 0 :: o.drop 1 := by
    have := List.take_append_drop 1 o
    rw [h5] at this
    exact this.symm
  have hv : vl o = vl (o.drop 1) := by
    conv => lhs; rw [ho]
    rw [vl_cons]; simp
  have hlt : vl (o.drop 1) < 10 ^ n := by
    have := vl_lt (o.drop 1) (fun d hd => h2 d (List.mem_of_mem_drop hd))
    rw [List.length_drop, h1] at this
    simpa using this
  rw [hv]
  have hc : c = 0 ∨ c = 1 := by omega
  rcases hc with rfl | rfl
  · omega
  · omega
/-- Digits without noughts ahead. -/
def stripL : List Nat → List Nat
  | 0 :: l => stripL l
  | l => l
theorem stripL_nil : ∀ (l : List Nat), (stripL l = [] ↔ vl l = 0)
  | [] => by simp [stripL, vl]
  | 0 :: l => by
    rw [stripL, stripL_nil l, vl_cons]; simp
  | (d + 1) :: l => by
    rw [stripL, vl_cons]
    · have : 0 < 10 ^ l.length := Nat.pow_pos (by omega)
      have : (d + 1) * 10 ^ l.length ≠ 0 := Nat.mul_ne_zero (by omega) (by omega)
      constructor
      · intro h; cases h
      · intro h; omega
    · intro _ h; cases h
end Go.Proofs.Ytifdpcjfjoekmaa
