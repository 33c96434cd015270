/-
  Package num: sign, cmpSize, Right, Cmp: their contracts. Condition: the numbers are right.
-/
import Derived.Test.YtifdpcjfjoekmaaA1
namespace Go.Proofs.Ytifdpcjfjoekmaa
open Go.RowKit

theorem Calls.quiet_ws {P : Program} {f : FuncId} {args : Array Value} {w : World} {n : Nat} {v : Value}
    (h : Calls P f args (w.drewN n) fun e w' => e = .returned v ∧ w.drewN n = w') : Calls P f args (w.drewN n) fun e w'' => e = .returned v ∧ ∃ m, w'' = w.drewN m :=
  h.mono fun _ _ ⟨he, hm⟩ => ⟨he, n, hm.symm⟩
def cmp3 (a b : Int) : Int := if a < b then -1 else if b < a then 1 else 0
theorem cmp3_lt {a b : Int} (h : a < b) : cmp3 a b = -1 := if_pos h
theorem cmp3_gt {a b : Int} (h : b < a) : cmp3 a b = 1 := by unfold cmp3; rw [if_neg (by omega), if_pos h]
theorem cmp3_eq {a b : Int} (h : a = b) : cmp3 a b = 0 := by unfold cmp3; rw [if_neg (by omega), if_neg (by omega)]
/-- A right number. -/
structure RightN (m e : Int) : Prop where
  zero : m = 0 → e = 0
  lo : -1000000000000000 < m
  hi : m < 1000000000000000
  mod : m ≠ 0 → m % 10 ≠ 0
  elo : -40 ≤ e
  top : m ≠ 0 → (ndig m.natAbs : Int) + e ≤ 40
def keyA (m e : Int) : Nat := m.natAbs * pw (e + 40).toNat
def keyN (m e : Int) : Int := m * (pw (e + 40).toNat : Int)
theorem pw_pos (n : Nat) : 0 < pw n := Nat.pow_pos (by omega)
theorem pw_add (a b : Nat) : pw (a + b) = pw a * pw b := Nat.pow_add 10 a b

theorem key_lt {x y : Nat} {e f : Int} (hx0 : 0 < x) (hy0 : 0 < y) (hx : x < 10 ^ 15) (hy : y < 10 ^ 15) (he : -40 ≤ e) (hf : -40 ≤ f) (h : (ndig x : Int) + e < (ndig y : Int) + f) :
    x * pw (e + 40).toNat < y * pw (f + 40).toNat := by
  obtain ⟨_, x2⟩ := ndig_spec hx0 hx
  obtain ⟨y1, _⟩ := ndig_spec hy0 hy
  have hn := ndig_le y
  have a1 : x * pw (e + 40).toNat < pw (ndig x) * pw (e + 40).toNat := Nat.mul_lt_mul_of_pos_right x2 (pw_pos _)
  have a2 : pw (ndig y - 1) * pw (f + 40).toNat ≤ y * pw (f + 40).toNat := Nat.mul_le_mul_right _ y1
  rw [← pw_add] at a1 a2
  have a3 : pw (ndig x + (e + 40).toNat) ≤ pw (ndig y - 1 + (f + 40).toNat) := pw_le (by omega)
  omega
theorem key_top {x : Nat} {e : Int} (hx0 : 0 < x) (hx : x < 10 ^ 15) (he : -40 ≤ e) (t : Nat) (ht : (t : Int) = (ndig x : Int) + (e + 40)) :
    x * pw (15 - ndig x) * pw t = x * pw (e + 40).toNat * pw 15 := by
  have h15 := ndig_15 hx0 hx
  rw [Nat.mul_assoc, ← pw_add, Nat.mul_assoc, ← pw_add]
  congr 2
  omega
theorem key_same {x y : Nat} {e f : Int} (hx0 : 0 < x) (hy0 : 0 < y) (hx : x < 10 ^ 15) (hy : y < 10 ^ 15) (he : -40 ≤ e) (hf : -40 ≤ f) (h : (ndig x : Int) + e = (ndig y : Int) + f) :
    (x * pw (15 - ndig x) < y * pw (15 - ndig y) ↔ x * pw (e + 40).toNat < y * pw (f + 40).toNat) := by
  have k1 := key_top hx0 hx he (ndig x + (e + 40).toNat) (by omega)
  have k2 := key_top hy0 hy hf (ndig x + (e + 40).toNat) (by omega)
  constructor
  · intro hh
    have := Nat.mul_lt_mul_of_pos_right hh (pw_pos (ndig x + (e + 40).toNat))
    rw [k1, k2] at this
    exact Nat.lt_of_mul_lt_mul_right this
  · intro hh
    have := Nat.mul_lt_mul_of_pos_right hh (pw_pos 15)
    rw [← k1, ← k2] at this
    exact Nat.lt_of_mul_lt_mul_right this
theorem ndig_fit {x : Nat} (hx0 : 0 < x) (hx : x < 10 ^ 15) : x * pw (15 - ndig x) < 1000000000000000 := by
  have h15 := ndig_15 hx0 hx
  obtain ⟨_, x2⟩ := ndig_spec hx0 hx
  have a1 : x * pw (15 - ndig x) < pw (ndig x) * pw (15 - ndig x) := Nat.mul_lt_mul_of_pos_right x2 (pw_pos _)
  rw [← pw_add] at a1
  have : pw (ndig x + (15 - ndig x)) = 1000000000000000 := by rw [show ndig x + (15 - ndig x) = 15 by omega]; decide
  omega

theorem below_drewN {n : Nat} {w W : World} (h : Below n w W) (k : Nat) : Below n w (W.drewN k) := ⟨h.os, h.tape, h.output, h.size, h.block⟩
set_option maxHeartbeats 1000000 in
theorem sign_c (m e : Int) (w : World) : Calls Try.prog 46 #[.agg #[.int .i64 m, .int .i64 e]] w fun x w' => x = .returned (.int .i64 (cmp3 m 0)) ∧ w' = w.alloc (.cells #[.int .i64 m, .int .i64 e] 40) := by
  by_cases h : m < 0
  · have e1 := Lib.hid (cmp3_lt h)
    go_enter Try.func46, Try.ntmps46
    go_wp2
    go_ret
    exact ⟨ret_i64 e1.out.symm, rfl⟩
  · by_cases h0 : 0 < m
    · have e1 := Lib.hid (cmp3_gt h0)
      go_enter Try.func46, Try.ntmps46
      go_wp2
      go_ret
      exact ⟨ret_i64 e1.out.symm, rfl⟩
    · have e1 := Lib.hid (cmp3_eq (show m = 0 by omega))
      go_enter Try.func46, Try.ntmps46
      go_wp2
      go_ret
      exact ⟨ret_i64 e1.out.symm, rfl⟩

set_option maxRecDepth 100000 in
set_option maxHeartbeats 4000000 in
theorem cmpSize_c (m e m2 e2 : Int) (h1 : RightN m e) (h2 : RightN m2 e2) (hz : m = 0 ↔ m2 = 0) (w : World) :
    Calls Try.prog 47 #[.agg #[.int .i64 m, .int .i64 e], .agg #[.int .i64 m2, .int .i64 e2]] w fun x w' => x = .returned (.int .i64 (cmp3 (keyA m e) (keyA m2 e2))) ∧ Below w.heap.size w w' := by
  have bV : Below w.heap.size w ((w.alloc (.cells #[.int .i64 m, .int .i64 e] 40)).alloc (.cells #[.int .i64 m2, .int .i64 e2] 40)) := ((Below.refl _ w).alloc (Nat.le_refl _) _).alloc (by simp) _
  have HB := Lib.hid bV
  clear bV
  by_cases h0 : m = 0
  · have h02 := hz.1 h0
    subst h0
    subst h02
    have e1 : Hid (cmp3 (keyA 0 e) (keyA 0 e2) = 0) := by unfold keyA; exact cmp3_eq (by simp)
    clear hz h1 h2
    go_enter Try.func47, Try.ntmps47
    go_wp2
    go_ret
    exact ⟨ret_i64 e1.out.symm, HB.out⟩
  · have h02 : m2 ≠ 0 := fun e => h0 (hz.2 e)
    have hb1 : (m == 0) = false := by simpa using h0
    have b1 := h1.lo
    have b2 := h1.hi
    have b3 := h2.lo
    have b4 := h2.hi
    have x0 : 0 < m.natAbs := by omega
    have y0 : 0 < m2.natAbs := by omega
    have xl : m.natAbs < 1000000000000000 := by omega
    have yl : m2.natAbs < 1000000000000000 := by omega
    have H1 := Lib.hid h1
    have H2 := Lib.hid h2
    have nx := ndig_le m.natAbs
    have ny := ndig_le m2.natAbs
    have nx15 := ndig_15 x0 xl
    have ny15 := ndig_15 y0 yl
    have ee := h1.elo
    have ee2 := h2.elo
    have et := h1.top h0
    have et2 := h2.top h02
    clear h1 h2 hz
    go_enter Try.func47, Try.ntmps47
    go_wp2
    go_quiet ((go_at_call 51; exact Calls.quiet_ws (size_c _ (by omega) (by omega) _)))
    clear b1 b2 b3 b4
    go_wp2_with (go_at_call 52; refine (count_c _ (by omega) _).mono ?_; rintro e w' ⟨rfl, rfl⟩)
    go_quiet (fail)
    generalize hX : ndig m.natAbs = X at *
    generalize hY : ndig m2.natAbs = Y at *
    have HX := Lib.hid hX
    have HY := Lib.hid hY
    clear hX hY
    rcases Int.lt_trichotomy ((X : Int) + e) ((Y : Int) + e2) with ht | ht | ht
    · have hne : ((X : Int) + e != (Y : Int) + e2) = true := by rw [bne_iff_ne]; omega
      have hk : Hid (cmp3 (keyA m e) (keyA m2 e2) = -1) := cmp3_lt (by
        have := key_lt (e := e) (f := e2) x0 y0 xl yl ee ee2 (by rw [HX.out, HY.out]; exact ht)
        unfold keyA; omega)
      go_wp2
      go_ret
      exact ⟨ret_i64 hk.out.symm, below_drewN HB.out _⟩
    · have hne : ((X : Int) + e != (Y : Int) + e2) = false := by simpa using ht
      have hs := Lib.hid (key_same x0 y0 xl yl ee ee2 (by rw [HX.out, HY.out]; exact ht))
      have hs2 := Lib.hid (key_same y0 x0 yl xl ee2 ee (by rw [HX.out, HY.out]; exact ht.symm))
      have fx := ndig_fit x0 xl
      have fy := ndig_fit y0 yl
      rw [HX.out] at fx
      rw [HY.out] at fy
      rw [HX.out, HY.out] at hs hs2
      have p1 : pw (15 - X) ≤ pw 15 := pw_le (by omega)
      have p2 : pw (15 - Y) ≤ pw 15 := pw_le (by omega)
      have p3 : pw 15 = 1000000000000000 := by decide
      have d1 : (15 : Int) - (X : Int) = ((15 - X : Nat) : Int) := by omega
      have d2 : (15 : Int) - (Y : Int) = ((15 - Y : Nat) : Int) := by omega
      have HT := Lib.hid ht
      have cpx := power_c (15 - X) (by omega)
      have cpy := power_c (15 - Y) (by omega)
      obtain ⟨A, hA⟩ : ∃ A, pw (15 - X) = A := ⟨_, rfl⟩
      obtain ⟨B, hB⟩ : ∃ B, pw (15 - Y) = B := ⟨_, rfl⟩
      rw [hA] at fx hs hs2 p1 cpx
      rw [hB] at fy hs hs2 p2 cpy
      have m1 : ((m.natAbs : Int) * (A : Int)) = ((m.natAbs * A : Nat) : Int) := by simp
      have m2' : ((m2.natAbs : Int) * (B : Int)) = ((m2.natAbs * B : Nat) : Int) := by simp
      rw [← d1] at cpx
      rw [← d2] at cpy
      have e3 : ((m.natAbs * A : Nat) : Int) < 1000000000000000 := by omega
      have e4 : ((m2.natAbs * B : Nat) : Int) < 1000000000000000 := by omega
      rw [← m1] at e3
      rw [← m2'] at e4
      have e5 : 0 ≤ (m.natAbs : Int) * (A : Int) := by rw [m1]; omega
      have e6 : 0 ≤ (m2.natAbs : Int) * (B : Int) := by rw [m2']; omega
      have M1 := Lib.hid m1
      have M2 := Lib.hid m2'
      have CX := Lib.hid cpx
      have CY := Lib.hid cpy
      clear ht m1 m2' d1 d2 p1 p2 p3 hA hB fx fy cpx cpy
      go_wp2_with fail
      refine (CX.out _).mono ?_
      rintro e w' ⟨rfl, rfl⟩
      go_wp2_with fail
      refine (CY.out _).mono ?_
      rintro e w' ⟨rfl, rfl⟩
      rcases Nat.lt_trichotomy (m.natAbs * A) (m2.natAbs * B) with hc | hc | hc
      · have q1 : ((m.natAbs : Int) * (A : Int)) < ((m2.natAbs : Int) * (B : Int)) := by rw [M1.out, M2.out]; omega
        have hk : Hid (cmp3 (keyA m e) (keyA m2 e2) = -1) := cmp3_lt (by have := hs.out.1 hc; unfold keyA; omega)
        clear hc
        generalize ((m.natAbs : Int) * (A : Int)) = xa at *
        generalize ((m2.natAbs : Int) * (B : Int)) = ya at *
        have hw : IntKind.u64.wrap ((m2.natAbs : Int) * (B : Int)) = ya := by rw [show ((m2.natAbs : Int) * (B : Int)) = ya by rw [M2.out]; simp]; exact IntWalk.u64_in _ (by omega)
        go_wp2
        go_ret
        exact ⟨ret_i64 hk.out.symm, below_drewN HB.out _⟩
      · have q1 : ¬ ((m.natAbs : Int) * (A : Int)) < ((m2.natAbs : Int) * (B : Int)) := by rw [M1.out, M2.out]; omega
        have q2 : ¬ ((m2.natAbs : Int) * (B : Int)) < ((m.natAbs : Int) * (A : Int)) := by rw [M1.out, M2.out]; omega
        have hk : Hid (cmp3 (keyA m e) (keyA m2 e2) = 0) := cmp3_eq (by
          have a1 := mt hs.out.2 (by omega)
          have a2 := mt hs2.out.2 (by omega)
          unfold keyA; omega)
        clear hc
        generalize ((m.natAbs : Int) * (A : Int)) = xa at *
        generalize ((m2.natAbs : Int) * (B : Int)) = ya at *
        have hw : IntKind.u64.wrap ((m2.natAbs : Int) * (B : Int)) = ya := by rw [show ((m2.natAbs : Int) * (B : Int)) = ya by rw [M2.out]; simp]; exact IntWalk.u64_in _ (by omega)
        go_wp2
        go_ret
        exact ⟨ret_i64 hk.out.symm, below_drewN HB.out _⟩
      · have q1 : ¬ ((m.natAbs : Int) * (A : Int)) < ((m2.natAbs : Int) * (B : Int)) := by rw [M1.out, M2.out]; omega
        have q2 : ((m2.natAbs : Int) * (B : Int)) < ((m.natAbs : Int) * (A : Int)) := by rw [M1.out, M2.out]; omega
        have hk : Hid (cmp3 (keyA m e) (keyA m2 e2) = 1) := cmp3_gt (by have := hs2.out.1 hc; unfold keyA; omega)
        clear hc
        generalize ((m.natAbs : Int) * (A : Int)) = xa at *
        generalize ((m2.natAbs : Int) * (B : Int)) = ya at *
        have hw : IntKind.u64.wrap ((m2.natAbs : Int) * (B : Int)) = ya := by rw [show ((m2.natAbs : Int) * (B : Int)) = ya by rw [M2.out]; simp]; exact IntWalk.u64_in _ (by omega)
        go_wp2
        go_ret
        exact ⟨ret_i64 hk.out.symm, below_drewN HB.out _⟩
    · have hne : ((X : Int) + e != (Y : Int) + e2) = true := by rw [bne_iff_ne]; omega
      have hk : Hid (cmp3 (keyA m e) (keyA m2 e2) = 1) := cmp3_gt (by
        have := key_lt (e := e2) (f := e) y0 x0 yl xl ee2 ee (by rw [HX.out, HY.out]; exact ht)
        unfold keyA; omega)
      have hlt : ¬ (X : Int) + e < (Y : Int) + e2 := by omega
      go_wp2
      go_ret
      exact ⟨ret_i64 hk.out.symm, below_drewN HB.out _⟩
end Go.Proofs.Ytifdpcjfjoekmaa
