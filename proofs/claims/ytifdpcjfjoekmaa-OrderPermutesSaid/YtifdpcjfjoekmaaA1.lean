/-
  Package num: size, count, power, sign: their contracts. Conditions: those said in each statement.
-/
import Derived.Test.YtifdpcjfjoekmaaA0
import Derived.IntWalk
import Derived.Lib.Hide
import Derived.Lib.Bytealg
import Derived.Lib.Strings
import Derived.Lib.Walk
namespace Go.Proofs.Ytifdpcjfjoekmaa
open Go.RowKit

def Fits (n : Int) : Prop := -9223372036854775808 ≤ n ∧ n ≤ 9223372036854775807
theorem ret_u64 {a b : Int} (h : a = b) : Ending.returned (.int .u64 a) = .returned (.int .u64 b) := by rw [h]
theorem ret_i64 {a b : Int} (h : a = b) : Ending.returned (.int .i64 a) = .returned (.int .i64 b) := by rw [h]

set_option maxHeartbeats 1000000 in
theorem size_c (m : Int) (h1 : -1000000000000000 ≤ m) (h2 : m ≤ 1000000000000000) (w : World) :
    Calls Try.prog 51 #[.int .i64 m] w fun e w' => e = .returned (.int .u64 m.natAbs) ∧ w = w' := by
  by_cases h : m < 0
  · go_enter Try.func51, Try.ntmps51
    go_wp2
    go_ret
    refine ⟨ret_u64 ?_, rfl⟩
    simp only [IntKind.wrap, IntKind.signed, IntKind.bits, Bool.false_and, Bool.false_eq_true, if_false]
    omega
  · go_enter Try.func51, Try.ntmps51
    go_wp2
    go_ret
    refine ⟨ret_u64 ?_, rfl⟩
    first | omega | (unfold IntKind.wrap; simp; omega)

/-- How many digits. -/
def ndigN : Nat → Nat → Nat
  | 0, _ => 1
  | f + 1, n => if n < 10 then 1 else ndigN f (n / 10) + 1
def ndig (n : Nat) : Nat := ndigN 20 n
theorem ndigN_more : ∀ (f n : Nat), n < 10 ^ (f + 1) → ndigN (f + 1) n = ndigN f n
  | 0, n, h => by simp [ndigN]; omega
  | f + 1, n, h => by
    unfold ndigN
    split
    · rfl
    · rw [ndigN_more f (n / 10) (by rw [Nat.pow_succ] at h; omega)]
theorem ndig_step {n : Nat} (h : ¬ n < 10) (hn : n < 10 ^ 20) : ndig n = ndig (n / 10) + 1 := by
  unfold ndig
  show ndigN (19 + 1) n = _
  rw [ndigN]
  rw [if_neg h, ← ndigN_more 19 (n / 10) (by omega)]
theorem ndig_one {n : Nat} (h : n < 10) : ndig n = 1 := by
  unfold ndig
  show ndigN (19 + 1) n = 1
  rw [ndigN, if_pos h]
theorem ndigN_le : ∀ (f n : Nat), 1 ≤ ndigN f n ∧ ndigN f n ≤ f + 1
  | 0, n => by simp [ndigN]
  | f + 1, n => by
    unfold ndigN
    split
    · omega
    · have := ndigN_le f (n / 10); omega
theorem ndig_le (n : Nat) : 1 ≤ ndig n ∧ ndig n ≤ 21 := ndigN_le 20 n
theorem ndigN_spec : ∀ (f n : Nat), 0 < n → n < 10 ^ (f + 1) → 10 ^ (ndigN f n - 1) ≤ n ∧ n < 10 ^ ndigN f n
  | 0, n, h0, h => by simp [ndigN] at *; omega
  | f + 1, n, h0, h => by
    unfold ndigN
    split
    · simp; omega
    · have ih := ndigN_spec f (n / 10) (by omega) (by rw [Nat.pow_succ] at h; omega)
      have l := ndigN_le f (n / 10)
      obtain ⟨k, hk⟩ : ∃ k, ndigN f (n / 10) = k + 1 := ⟨ndigN f (n / 10) - 1, by omega⟩
      rw [hk] at ih ⊢
      simp only [Nat.add_sub_cancel] at ih ⊢
      rw [Nat.pow_succ 10 (k + 1)]
      rw [Nat.pow_succ] at ih ⊢
      omega
theorem ndig_spec {n : Nat} (h0 : 0 < n) (h : n < 10 ^ 15) : 10 ^ (ndig n - 1) ≤ n ∧ n < 10 ^ ndig n := ndigN_spec 20 n h0 (by omega)
theorem ndig_15 {n : Nat} (h0 : 0 < n) (h : n < 10 ^ 15) : ndig n ≤ 15 := by
  have := (ndig_spec h0 h).1
  rcases Nat.lt_or_ge 15 (ndig n) with hc | hc
  · have : 10 ^ 15 ≤ 10 ^ (ndig n - 1) := Nat.pow_le_pow_right (by omega) (by omega)
    omega
  · exact hc

set_option maxHeartbeats 1000000 in
theorem count_c (n : Nat) (h : n < 1000000000000000) (w : World) :
    Calls Try.prog 52 #[.int .u64 n] w fun e w' => e = .returned (.int .i64 (ndig n)) ∧ w = w' := by
  go_enter Try.func52, Try.ntmps52
  go_wp2
  go_loop [0, 3] (fun x d => ∃ m k : Nat, x = .int .u64 m ∧ d = .int .i64 ((k : Int) + 1) ∧ m < 1000000000000000 ∧ k + ndig m = ndig n) (fun x _ => (intOf x).toNat)
  case atStart => exact ⟨n, 0, rfl, by simp, h, by simp⟩
  case round =>
    obtain ⟨m, k, rfl, rfl, hm, hk⟩ := hrel
    have HK := Lib.hid hk
    have hkb : (k : Int) ≤ 21 := by have := ndig_le n; have := ndig_le m; omega
    clear hk
    by_cases h10 : m < 10
    · have e := ndig_one h10
      have hd : ¬ (10 : Int) ≤ (m : Int) := by omega
      have HE := Lib.hid e
      clear e
      go_wp2
      go_ret
      refine ⟨ret_i64 ?_, rfl⟩
      have := HK.out; have := HE.out; omega
    · have e := ndig_step h10 (by omega)
      have hd : (10 : Int) ≤ (m : Int) := by omega
      have HE := Lib.hid e
      clear e
      go_wp2
      go_round
      case rel => exact ⟨m / 10, k + 1, by simp, by simp, by omega, by have := HK.out; have := HE.out; omega⟩
      case measure => simp [intOf]; omega

/-- Ten to the power of n. -/
def pw (n : Nat) : Nat := 10 ^ n
theorem pw_succ (n : Nat) : pw (n + 1) = pw n * 10 := Nat.pow_succ 10 n
theorem pw_le {n m : Nat} (h : n ≤ m) : pw n ≤ pw m := Nat.pow_le_pow_right (by omega) h
set_option maxHeartbeats 1000000 in
theorem power_c (n : Nat) (h : n ≤ 15) (w : World) :
    Calls Try.prog 53 #[.int .i64 n] w fun e w' => e = .returned (.int .u64 (pw n)) ∧ w = w' := by
  go_enter Try.func53, Try.ntmps53
  go_wp2
  go_loop [3, 5] (fun p i => ∃ k : Nat, k ≤ n ∧ i = .int .i64 k ∧ p = .int .u64 (pw k)) (fun _ i => n - (intOf i).toNat)
  case atStart => exact ⟨0, by omega, rfl, rfl⟩
  case round =>
    obtain ⟨k, hk, rfl, rfl⟩ := hrel
    by_cases hlt : k < n
    · have hb : pw k ≤ pw 14 := pw_le (by omega)
      have h14 : pw 14 = 100000000000000 := by decide
      have hs := Lib.hid (pw_succ k)
      have hkn : (k : Int) < (n : Int) := by omega
      generalize hp : pw k = p at *
      have hp0 : (0 : Int) ≤ (p : Int) := by omega
      have hp1 : (p : Int) ≤ 100000000000000 := by omega
      clear hb hp h14
      go_wp2
      go_round
      case rel => exact ⟨k + 1, by omega, by go_num, by rw [hs.out]; go_num⟩
      case measure => simp [intOf]; omega
    · have hkk : k = n := by omega
      subst hkk
      have hkn : ¬ (k : Int) < (k : Int) := by omega
      go_wp2
      go_ret
      exact ⟨rfl, rfl⟩
end Go.Proofs.Ytifdpcjfjoekmaa
