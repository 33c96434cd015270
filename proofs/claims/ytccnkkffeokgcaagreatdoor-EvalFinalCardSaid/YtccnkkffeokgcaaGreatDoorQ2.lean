/-
  Package num: size, count, Right: their contracts. Conditions: those said in each statement.
-/
import Derived.Test.YtccnkkffeokgcaaGreatDoorQ1
namespace Go.Proofs.YtccnkkffeokgcaaGreatDoor
open Go.RowKit
theorem Tryz.info3 : (Tryz.prog.info? 3).map (fun i => (i.zero, i.size, i.bytes)) = some (some (.int .i64 0), 1, 8) := by kernel_rfl
def Fits (n : Int) : Prop := -9223372036854775808 ≤ n ∧ n ≤ 9223372036854775807
theorem ret_u64 {a b : Int} (h : a = b) : Ending.returned (.int .u64 a) = .returned (.int .u64 b) := by rw [h]
theorem ret_i64 {a b : Int} (h : a = b) : Ending.returned (.int .i64 a) = .returned (.int .i64 b) := by rw [h]

set_option maxHeartbeats 1000000 in
theorem size_c (m : Int) (h1 : -1000000000000000 ≤ m) (h2 : m ≤ 1000000000000000) (w : World) :
    Calls Tryz.prog 130 #[.int .i64 m] w fun e w' => e = .returned (.int .u64 m.natAbs) ∧ w = w' := by
  by_cases h : m < 0
  · go_enter Tryz.func130, Tryz.ntmps130
    go_wp2
    go_ret
    refine ⟨ret_u64 ?_, rfl⟩
    simp only [IntKind.wrap, IntKind.signed, IntKind.bits, Bool.false_and, Bool.false_eq_true, if_false]
    omega
  · go_enter Tryz.func130, Tryz.ntmps130
    go_wp2
    go_ret
    refine ⟨ret_u64 ?_, rfl⟩
    first | omega | (unfold IntKind.wrap; simp; omega)

/-- How many digits. -/
def ndigN : Nat → Nat → Nat
  | 0, _ => 1
  | f + 1, n => if n < 10 then 1 else ndigN f (n / 10) + 1
def ndig (n : Nat) : Nat := ndigN 20 n
theorem ndigN_more : ∀ (f n : Nat), n < 10 ^ (f + 1) → ndigN (f + 1) n = ndigN f n
  | 0, n, h => by simp [ndigN]; omega
  | f + 1, n, h => by
    unfold ndigN
    split
    · rfl
    · rw [ndigN_more f (n / 10) (by rw [Nat.pow_succ] at h; omega)]
theorem ndig_step {n : Nat} (h : ¬ n < 10) (hn : n < 10 ^ 20) : ndig n = ndig (n / 10) + 1 := by
  unfold ndig
  show ndigN (19 + 1) n = _
  rw [ndigN]
  rw [if_neg h, ← ndigN_more 19 (n / 10) (by omega)]
theorem ndig_one {n : Nat} (h : n < 10) : ndig n = 1 := by
  unfold ndig
  show ndigN (19 + 1) n = 1
  rw [ndigN, if_pos h]
theorem ndigN_le : ∀ (f n : Nat), 1 ≤ ndigN f n ∧ ndigN f n ≤ f + 1
  | 0, n => by simp [ndigN]
  | f + 1, n => by
    unfold ndigN
    split
    · omega
    · have := ndigN_le f (n / 10); omega
theorem ndig_le (n : Nat) : 1 ≤ ndig n ∧ ndig n ≤ 21 := ndigN_le 20 n
theorem ndigN_spec : ∀ (f n : Nat), 0 < n → n < 10 ^ (f + 1) → 10 ^ (ndigN f n - 1) ≤ n ∧ n < 10 ^ ndigN f n
  | 0, n, h0, h => by simp [ndigN] at *; omega
  | f + 1, n, h0, h => by
    unfold ndigN
    split
    · simp; omega
    · have ih := ndigN_spec f (n / 10) (by omega) (by rw [Nat.pow_succ] at h; omega)
      have l := ndigN_le f (n / 10)
      obtain ⟨k, hk⟩ : ∃ k, ndigN f (n / 10) = k + 1 := ⟨ndigN f (n / 10) - 1, by omega⟩
      rw [hk] at ih ⊢
      simp only [Nat.add_sub_cancel] at ih ⊢
      rw [Nat.pow_succ 10 (k + 1)]
      rw [Nat.pow_succ] at ih ⊢
      omega
theorem ndig_spec {n : Nat} (h0 : 0 < n) (h : n < 10 ^ 15) : 10 ^ (ndig n - 1) ≤ n ∧ n < 10 ^ ndig n := ndigN_spec 20 n h0 (by omega)
theorem ndig_15 {n : Nat} (h0 : 0 < n) (h : n < 10 ^ 15) : ndig n ≤ 15 := by
  have := (ndig_spec h0 h).1
  rcases Nat.lt_or_ge 15 (ndig n) with hc | hc
  · have : 10 ^ 15 ≤ 10 ^ (ndig n - 1) := Nat.pow_le_pow_right (by omega) (by omega)
    omega
  · exact hc

set_option maxHeartbeats 1000000 in
theorem count_c (n : Nat) (h : n < 1000000000000000) (w : World) :
    Calls Tryz.prog 173 #[.int .u64 n] w fun e w' => e = .returned (.int .i64 (ndig n)) ∧ w = w' := by
  go_enter Tryz.func173, Tryz.ntmps173
  go_wp2
  go_loop [0, 3] (fun x d => ∃ m k : Nat, x = .int .u64 m ∧ d = .int .i64 ((k : Int) + 1) ∧ m < 1000000000000000 ∧ k + ndig m = ndig n) (fun x _ => (intOf x).toNat)
  case atStart => exact ⟨n, 0, rfl, by simp, h, by simp⟩
  case round =>
    obtain ⟨m, k, rfl, rfl, hm, hk⟩ := hrel
    have HK := Lib.hid hk
    have hkb : (k : Int) ≤ 21 := by have := ndig_le n; have := ndig_le m; omega
    clear hk
    by_cases h10 : m < 10
    · have e := ndig_one h10
      have hd : ¬ (10 : Int) ≤ (m : Int) := by omega
      have HE := Lib.hid e
      clear e
      go_wp2
      go_ret
      refine ⟨ret_i64 ?_, rfl⟩
      have := HK.out; have := HE.out; omega
    · have e := ndig_step h10 (by omega)
      have hd : (10 : Int) ≤ (m : Int) := by omega
      have HE := Lib.hid e
      clear e
      go_wp2
      go_round
      case rel => exact ⟨m / 10, k + 1, by simp, by simp, by omega, by have := HK.out; have := HE.out; omega⟩
      case measure => simp [intOf]; omega

theorem Calls.quiet_ws {P : Program} {f : FuncId} {args : Array Value} {w : World} {n : Nat} {v : Value}
    (h : Calls P f args (w.drewN n) fun e w' => e = .returned v ∧ w.drewN n = w') : Calls P f args (w.drewN n) fun e w'' => e = .returned v ∧ ∃ m, w'' = w.drewN m :=
  h.mono fun _ _ ⟨he, hm⟩ => ⟨he, n, hm.symm⟩
/-- A right number. -/
structure RightN (m e : Int) : Prop where
  zero : m = 0 → e = 0
  lo : -1000000000000000 < m
  hi : m < 1000000000000000
  mod : m ≠ 0 → m % 10 ≠ 0
  elo : -40 ≤ e
  top : m ≠ 0 → (ndig m.natAbs : Int) + e ≤ 40
set_option maxRecDepth 100000 in
set_option maxHeartbeats 4000000 in
theorem right_c (m e : Int) (h : RightN m e) (w : World) :
    Calls Tryz.prog 123 #[.agg #[.int .i64 m, .int .i64 e]] w fun x w' => x = .returned (.bool true) ∧ ∃ n, w' = (w.alloc (.cells #[.int .i64 m, .int .i64 e] 39)).drewN n := by
  by_cases h0 : m = 0
  · have e0 := h.zero h0
    subst h0
    subst e0
    clear h
    go_enter Tryz.func123, Tryz.ntmps123
    go_wp2
    go_ret
    exact ⟨rfl, 0, rfl⟩
  · have b1 := h.lo
    have b2 := h.hi
    have hb1 : (m == 0) = false := by simpa using h0
    have xl : m.natAbs < 1000000000000000 := by omega
    have hx : decide ((1000000000000000 : Int) ≤ (m.natAbs : Int)) = false := by rw [decide_eq_false_iff_not]; omega
    have hm := h.mod h0
    have hmod : (((m.natAbs : Int) % 10) == 0) = false := by rw [beq_eq_false_iff_ne]; omega
    have he1 : decide (e < -40) = false := by rw [decide_eq_false_iff_not]; have := h.elo; omega
    have nx := ndig_le m.natAbs
    have ht := h.top h0
    have he2 : decide (40 ≤ e) = false := by rw [decide_eq_false_iff_not]; omega
    have he3 : (-40 : Int) ≤ e := h.elo
    have he4 : e ≤ 40 := by omega
    clear h hm
    go_enter Tryz.func123, Tryz.ntmps123
    go_wp2_with (go_at_call 130; refine (size_c _ (by omega) (by omega) _).mono ?_; rintro e w' ⟨rfl, rfl⟩)
    have hle : decide ((ndig m.natAbs : Int) + e ≤ 40) = true := decide_eq_true ht
    go_quiet ((go_at_call 173; exact Calls.quiet_ws (count_c _ (by omega) _)))
    go_wp2
    go_ret
    exact ⟨rfl, _, rfl⟩

theorem below_of_drewN {w w' : World} (h : ∃ n, w' = w.drewN n) : Below w.heap.size w w' := by
  obtain ⟨n, rfl⟩ := h
  exact ⟨rfl, rfl, rfl, Nat.le_refl _, fun _ _ => rfl⟩
structure Val where
  kind : Int
  mant : Int
  exp : Int
  text : ByteArray
  truth : Bool
  fault : Int
def Val.cs (x : Val) : List Value := [.int .i64 x.kind, .int .i64 x.mant, .int .i64 x.exp, .string x.text, .bool x.truth, .int .i64 x.fault]
def zeroV : Val := ⟨0, 0, 0, ⟨#[]⟩, false, 0⟩
instance : Inhabited Val := ⟨zeroV⟩
def ManyR {α : Type} (f : α → List Value) (k : Nat) (w : World) (A : Option Addr) (l : List α) : Prop :=
  l ≠ [] → ∃ b off, A = some ⟨b, off, none⟩ ∧ b < w.heap.size ∧ ∀ i (h : i < l.length), ∀ j v, (f l[i])[j]? = some v → w.cell? ⟨b, off + i * k + j, none⟩ = some v
theorem ManyR.next {α : Type} {f : α → List Value} {k : Nat} {w w' : World} {A : Option Addr} {l : List α} (h : ManyR f k w A l) (hb : Below w.heap.size w w') : ManyR f k w' A l := fun hl => by
  obtain ⟨b, off, hA, hlt, hc⟩ := h hl
  exact ⟨b, off, hA, Nat.lt_of_lt_of_le hlt hb.size, fun i hi j v hv => (hb.cell (p := ⟨b, off + i * k + j, none⟩) hlt).trans (hc i hi j v hv)⟩
end Go.Proofs.YtccnkkffeokgcaaGreatDoor
