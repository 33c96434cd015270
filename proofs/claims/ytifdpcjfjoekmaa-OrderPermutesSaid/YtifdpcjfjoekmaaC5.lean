/-
  Plain laws: digits of a number, and the comparison by a difference digit by digit. No program.
-/
import Derived.Test.YtifdpcjfjoekmaaA3
import Derived.Test.YtifdpcjfjoekmaaB1
import Derived.Test.YtifdpcjfjoekmaaC3
namespace Go.Proofs.Ytifdpcjfjoekmaa
open Go.RowKit

theorem dgN_dig : ∀ (f n : Nat), Dig (dgN f n)
  | 0, _ => fun d hd => by simp [dgN] at hd
  | f + 1, n => by
    unfold dgN
    split
    · intro d hd; simp at hd
    · refine dig_append (dgN_dig f _) (fun d hd => ?_)
      have := List.mem_singleton.1 hd
      omega
theorem dg_dig (n : Nat) : Dig (dg n) := dgN_dig 20 n
theorem dgN_vl : ∀ (f n : Nat), n < 10 ^ f → vl (dgN f n) = n
  | 0, n, h => by simp at h; subst h; rfl
  | f + 1, n, h => by
    unfold dgN
    split
    · rename_i e; rw [e]; rfl
    · rw [vl_append, dgN_vl f (n / 10) (by rw [Nat.pow_succ] at h; omega)]
      simp [vl]
      omega
theorem dg_vl {n : Nat} (h : n < 10 ^ 20) : vl (dg n) = n := dgN_vl 20 n h
/-- An exact sum's sign and size. -/
def plusN (na nb : Bool) (X Y : Nat) : Bool × Nat := if na = nb then (na, X + Y) else if X < Y then (nb, Y - X) else (na, X - Y)
/-- What Cmp makes of it. -/
def cmpR (na nb : Bool) (X Y : Nat) : Int := if (plusN na nb X Y).2 = 0 then 0 else if (plusN na nb X Y).1 then -1 else 1
theorem cmp3_scale {a b s : Int} (h : 0 < s) : cmp3 (a * s) (b * s) = cmp3 a b := by
  have e1 : (a * s < b * s) ↔ a < b := ⟨fun h' => Int.lt_of_mul_lt_mul_right h' (by omega), fun h' => Int.mul_lt_mul_of_pos_right h' h⟩
  have e2 : (b * s < a * s) ↔ b < a := ⟨fun h' => Int.lt_of_mul_lt_mul_right h' (by omega), fun h' => Int.mul_lt_mul_of_pos_right h' h⟩
  unfold cmp3
  simp only [e1, e2]
theorem lt_zero_mul {m s : Int} (h : 0 < s) : (m * s < 0 ↔ m < 0) := by
  constructor
  · intro h'
    rcases Int.lt_or_le m 0 with h1 | h1
    · exact h1
    · have := Int.mul_nonneg h1 (Int.le_of_lt h); omega
  · intro h'; exact Int.mul_neg_of_neg_of_pos h' h
theorem cmpR_int (x y : Int) (na nb : Bool) (ha : na = true → x ≤ 0) (ha' : na = false → 0 ≤ x) (hb : nb = true → 0 ≤ y) (hb' : nb = false → y ≤ 0) :
    cmpR na nb x.natAbs y.natAbs = cmp3 x y := by
  cases na <;> cases nb <;> simp at ha ha' hb hb' <;> unfold cmpR plusN cmp3 <;> simp <;> (repeat' split) <;> simp_all <;> omega
/-- Of two numbers: their sizes at one power of ten. -/
theorem cmpR_key {m e m2 e2 e0 : Int} (he : e0 ≤ e) (he2 : e0 ≤ e2) (h0 : -40 ≤ e0) :
    cmpR (decide (m < 0)) (decide (-m2 < 0)) (m.natAbs * 10 ^ (e - e0).toNat) ((-m2).natAbs * 10 ^ (e2 - e0).toNat) = cmp3 (keyN m e) (keyN m2 e2) := by
  have p1 : (0 : Int) < ((10 ^ (e - e0).toNat : Nat) : Int) := by have : 0 < 10 ^ (e - e0).toNat := Nat.pow_pos (by omega); omega
  have p2 : (0 : Int) < ((10 ^ (e2 - e0).toNat : Nat) : Int) := by have : 0 < 10 ^ (e2 - e0).toNat := Nat.pow_pos (by omega); omega
  have p0 : (0 : Int) < ((pw (e0 + 40).toNat : Nat) : Int) := by have := pw_pos (e0 + 40).toNat; omega
  have k1 : keyN m e = (m * ((10 ^ (e - e0).toNat : Nat) : Int)) * ((pw (e0 + 40).toNat : Nat) : Int) := by
    unfold keyN
    rw [Int.mul_assoc, ← Int.natCast_mul]
    congr 2
    show 10 ^ (e + 40).toNat = 10 ^ _ * 10 ^ _
    rw [← Nat.pow_add]
    congr 1
    omega
  have k2 : keyN m2 e2 = (m2 * ((10 ^ (e2 - e0).toNat : Nat) : Int)) * ((pw (e0 + 40).toNat : Nat) : Int) := by
    unfold keyN
    rw [Int.mul_assoc, ← Int.natCast_mul]
    congr 2
    show 10 ^ (e2 + 40).toNat = 10 ^ _ * 10 ^ _
    rw [← Nat.pow_add]
    congr 1
    omega
  rw [k1, k2, cmp3_scale p0]
  have a1 : m.natAbs * 10 ^ (e - e0).toNat = (m * ((10 ^ (e - e0).toNat : Nat) : Int)).natAbs := by rw [Int.natAbs_mul]; rfl
  have a2 : (-m2).natAbs * 10 ^ (e2 - e0).toNat = (m2 * ((10 ^ (e2 - e0).toNat : Nat) : Int)).natAbs := by rw [Int.natAbs_mul, Int.natAbs_neg]; rfl
  rw [a1, a2]
  have z1 := lt_zero_mul (m := m) p1
  have z2 := lt_zero_mul (m := m2) p2
  generalize m * ((10 ^ (e - e0).toNat : Nat) : Int) = x at *
  generalize hy : m2 * ((10 ^ (e2 - e0).toNat : Nat) : Int) = y at *
  have z3 : (0 < m2 ↔ 0 < y) := by
    rw [← hy]
    constructor
    · intro h; exact Int.mul_pos h p2
    · intro h
      rcases Int.lt_or_le 0 m2 with h1 | h1
      · exact h1
      · have := Int.mul_nonpos_of_nonpos_of_nonneg h1 (Int.le_of_lt p2); omega
  refine cmpR_int x y _ _ (fun h => ?_) (fun h => ?_) (fun h => ?_) (fun h => ?_)
  · have := of_decide_eq_true h; omega
  · have := of_decide_eq_false h; omega
  · have := of_decide_eq_true h; omega
  · have := of_decide_eq_false h; omega
end Go.Proofs.Ytifdpcjfjoekmaa
