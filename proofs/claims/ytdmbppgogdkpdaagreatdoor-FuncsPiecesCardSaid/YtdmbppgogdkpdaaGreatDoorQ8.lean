/-
  Package value: Right, and what it asks; num.Right of any number: their contracts. Conditions: the ints fit 64 bits.
  Package value: Of, Truth, Bad, Text: their contracts. No condition.
  value.Right: its contract. Condition: the ints fit 64 bits.
  value.Right: its contract. Condition: the ints fit 64 bits.
  counterpaneref02.Right: its contract. Condition: the ints fit 64 bits.
-/
import Derived.Test.YtdmbppgogdkpdaaGreatDoorQ3
import Derived.MapKept
set_option linter.unusedSectionVars false
namespace Go.Proofs.YtdmbppgogdkpdaaGreatDoor
open Go.RowKit

def RgN (w : World) (m ex : Int) (e : Ending) (w' : World) : Prop := ∃ b : Bool, e = .returned (.bool b) ∧ (b = true ↔ RightN m ex) ∧ Below w.heap.size w w'
theorem sizeAny_c (m : Int) (h1 : -9223372036854775808 ≤ m) (h2 : m ≤ 9223372036854775807) (w : World) :
    Calls Tryz.prog 111 #[.int .i64 m] w fun e w' => e = .returned (.int .u64 m.natAbs) ∧ w = w' := by
  by_cases h : m < 0
  · go_enter Tryz.func111, Tryz.ntmps111
    go_wp2
    go_ret
    refine ⟨ret_u64 ?_, rfl⟩
    simp only [IntKind.wrap, IntKind.signed, IntKind.bits, Bool.false_and, Bool.false_eq_true, if_false]
    omega
  · go_enter Tryz.func111, Tryz.ntmps111
    go_wp2
    go_ret
    refine ⟨ret_u64 ?_, rfl⟩
    first | omega | (unfold IntKind.wrap; simp; omega)
theorem belowN {w w1 : World} (h : Below w.heap.size w w1) (n : Nat) : Below w.heap.size w (w1.drewN n) := h.trans ⟨rfl, rfl, rfl, Nat.le_refl _, fun _ _ => rfl⟩
set_option maxRecDepth 100000 in
set_option maxHeartbeats 4000000 in
theorem nright_c (m e : Int) (h1 : -9223372036854775808 ≤ m) (h2 : m ≤ 9223372036854775807) (h3 : -9223372036854775808 ≤ e) (h4 : e ≤ 9223372036854775807) (w : World) : Calls Tryz.prog 104 #[.agg #[.int .i64 m, .int .i64 e]] w (RgN w m e) := by
  have HB := Lib.hid ((Below.refl _ w).alloc (Nat.le_refl _) (.cells #[.int .i64 m, .int .i64 e] 39))
  by_cases h : RightN m e
  · exact (right_c m e h w).mono fun x w' ⟨hx, n, hw⟩ => ⟨true, hx, ⟨fun _ => h, fun _ => rfl⟩, by subst hw; exact belowN HB.out n⟩
  · have HN := Lib.hid h
    by_cases h0 : m = 0
    · subst h0
      have h5 : ¬ e = 0 := fun h5 => h (by subst h5; exact ⟨fun _ => rfl, by omega, by omega, fun h => absurd rfl h, by omega, fun h => absurd rfl h⟩)
      have h6 : (e == 0) = false := by simpa using h5
      clear h h5
      go_enter Tryz.func104, Tryz.ntmps104
      go_wp2_with fail
      go_ret
      exact ⟨false, rfl, ⟨(fun h => by cases h), fun r => absurd r HN.out⟩, HB.out⟩
    · have hb1 : (m == 0) = false := by simpa using h0
      by_cases c1 : m.natAbs < 1000000000000000
      · have hx : decide ((1000000000000000 : Int) ≤ (m.natAbs : Int)) = false := by rw [decide_eq_false_iff_not]; omega
        by_cases c2 : m.natAbs % 10 = 0
        · have hmod : (((m.natAbs : Int) % 10) == 0) = true := by rw [beq_iff_eq]; omega
          clear h c2
          go_enter Tryz.func104, Tryz.ntmps104
          go_wp2_with (go_at_call 111; refine (sizeAny_c _ h1 h2 _).mono ?_; rintro e w' ⟨rfl, rfl⟩)
          go_ret
          exact ⟨false, rfl, ⟨(fun h => by cases h), fun r => absurd r HN.out⟩, HB.out⟩
        · have hmod : (((m.natAbs : Int) % 10) == 0) = false := by rw [beq_eq_false_iff_ne]; omega
          by_cases c3 : e < -40
          · have he1 : decide (e < -40) = true := decide_eq_true c3
            clear h c2 c3
            go_enter Tryz.func104, Tryz.ntmps104
            go_wp2_with (go_at_call 111; refine (sizeAny_c _ h1 h2 _).mono ?_; rintro e w' ⟨rfl, rfl⟩)
            go_ret
            exact ⟨false, rfl, ⟨(fun h => by cases h), fun r => absurd r HN.out⟩, HB.out⟩
          · have he1 : decide (e < -40) = false := decide_eq_false c3
            by_cases c4 : 40 ≤ e
            · have he2 : decide (40 ≤ e) = true := decide_eq_true c4
              clear h c2 c3 c4
              go_enter Tryz.func104, Tryz.ntmps104
              go_wp2_with (go_at_call 111; refine (sizeAny_c _ h1 h2 _).mono ?_; rintro e w' ⟨rfl, rfl⟩)
              go_ret
              exact ⟨false, rfl, ⟨(fun h => by cases h), fun r => absurd r HN.out⟩, HB.out⟩
            · have he2 : decide (40 ≤ e) = false := decide_eq_false c4
              have nx := ndig_le m.natAbs
              have he3 : (-40 : Int) ≤ e := by omega
              have he4 : e ≤ 40 := by omega
              have hle : decide ((ndig m.natAbs : Int) + e ≤ 40) = false := decide_eq_false (fun ht => h ⟨fun e => absurd e h0, by omega, by omega, fun _ => by omega, he3, fun _ => ht⟩)
              clear h c2 c3 c4
              go_enter Tryz.func104, Tryz.ntmps104
              go_wp2_with (go_at_call 111; refine (sizeAny_c _ h1 h2 _).mono ?_; rintro e w' ⟨rfl, rfl⟩)
              go_quiet ((go_at_call 222; exact Calls.quiet_ws (count_c _ (by omega) _)))
              go_wp2
              go_ret
              exact ⟨false, rfl, ⟨(fun h => by cases h), fun r => absurd r HN.out⟩, belowN HB.out _⟩
      · have hx : decide ((1000000000000000 : Int) ≤ (m.natAbs : Int)) = true := decide_eq_true (by omega)
        clear h c1
        go_enter Tryz.func104, Tryz.ntmps104
        go_wp2_with (go_at_call 111; refine (sizeAny_c _ h1 h2 _).mono ?_; rintro e w' ⟨rfl, rfl⟩)
        go_ret
        exact ⟨false, rfl, ⟨(fun h => by cases h), fun r => absurd r HN.out⟩, HB.out⟩

/-- A right value. -/
structure RightV (x : Val) : Prop where
  lo : 0 ≤ x.kind
  hi : x.kind ≤ 4
  num : x.kind = 1 → RightN x.mant x.exp
  nonum : x.kind ≠ 1 → x.mant = 0 ∧ x.exp = 0
  text : x.kind = 2 → x.text.size ≤ 255
  notext : x.kind ≠ 2 → x.text = ⟨#[]⟩
  truth : x.kind ≠ 3 → x.truth = false
  fault : x.kind = 4 → 1 ≤ x.fault ∧ x.fault ≤ 9
  nofault : x.kind ≠ 4 → x.fault = 0
def veq (x y : Val) : Bool := x.kind == y.kind && (x.mant == y.mant && x.exp == y.exp) && x.text == y.text && x.truth == y.truth && x.fault == y.fault
theorem veq_true {x y : Val} : veq x y = true ↔ x = y := by
  obtain ⟨a, b, c, d, e, f⟩ := x
  obtain ⟨a', b', c', d', e', f'⟩ := y
  simp only [veq, Bool.and_eq_true, beq_iff_eq, Go.MapKept.bytes_beq, Val.mk.injEq]
  constructor
  · rintro ⟨⟨⟨⟨h1, h2, h3⟩, h4⟩, h5⟩, h6⟩; exact ⟨h1, h2, h3, h4, h5, h6⟩
  · rintro ⟨h1, h2, h3, h4, h5, h6⟩; exact ⟨⟨⟨⟨h1, h2, h3⟩, h4⟩, h5⟩, h6⟩
def badV (f : Int) : Val := ⟨4, 0, 0, ⟨#[]⟩, false, if 1 ≤ f ∧ f ≤ 9 then f else 9⟩
theorem rightV_kind0 {m e : Int} {t : ByteArray} {b : Bool} {f : Int} : veq ⟨0, m, e, t, b, f⟩ ⟨0, 0, 0, ⟨#[]⟩, false, 0⟩ = true ↔ RightV ⟨0, m, e, t, b, f⟩ := by
  rw [veq_true]
  constructor
  · intro h; cases h; exact ⟨by simp, by simp, (fun h => by cases h), fun _ => ⟨rfl, rfl⟩, (fun h => by cases h), fun _ => rfl, fun _ => rfl, (fun h => by cases h), fun _ => rfl⟩
  · intro h
    obtain ⟨h1, h2⟩ := h.nonum (by simp)
    have h3 := h.notext (by simp); have h4 := h.truth (by simp); have h5 := h.nofault (by simp)
    simp only at h1 h2 h3 h4 h5
    subst h1; subst h2; subst h3; subst h4; subst h5; rfl
theorem rightV_kind1 {m e : Int} {t : ByteArray} {b : Bool} {f : Int} : (RightN m e ∧ veq ⟨1, m, e, t, b, f⟩ ⟨1, m, e, ⟨#[]⟩, false, 0⟩ = true) ↔ RightV ⟨1, m, e, t, b, f⟩ := by
  rw [veq_true]
  constructor
  · rintro ⟨hn, h⟩; cases h; exact ⟨by simp, by simp, fun _ => hn, fun h => absurd rfl h, (fun h => by cases h), fun _ => rfl, fun _ => rfl, (fun h => by cases h), fun _ => rfl⟩
  · intro h
    have h3 := h.notext (by simp); have h4 := h.truth (by simp); have h5 := h.nofault (by simp)
    simp only at h3 h4 h5
    subst h3; subst h4; subst h5
    exact ⟨h.num rfl, rfl⟩
theorem rightV_kind2 {m e : Int} {t : ByteArray} {b : Bool} {f : Int} : veq ⟨2, m, e, t, b, f⟩ (if t.size ≤ 255 then ⟨2, 0, 0, t, false, 0⟩ else badV 2) = true ↔ RightV ⟨2, m, e, t, b, f⟩ := by
  rw [veq_true]
  constructor
  · intro h
    split at h
    · rename_i ht
      cases h; exact ⟨by simp, by simp, (fun h => by cases h), fun _ => ⟨rfl, rfl⟩, fun _ => ht, fun h => absurd rfl h, fun _ => rfl, (fun h => by cases h), fun _ => rfl⟩
    · cases h
  · intro h
    obtain ⟨h1, h2⟩ := h.nonum (by simp)
    have h4 := h.truth (by simp); have h5 := h.nofault (by simp)
    simp only at h1 h2 h4 h5
    subst h1; subst h2; subst h4; subst h5
    rw [if_pos (h.text rfl)]
theorem rightV_kind3 {m e : Int} {t : ByteArray} {b : Bool} {f : Int} : veq ⟨3, m, e, t, b, f⟩ ⟨3, 0, 0, ⟨#[]⟩, b, 0⟩ = true ↔ RightV ⟨3, m, e, t, b, f⟩ := by
  rw [veq_true]
  constructor
  · intro h; cases h; exact ⟨by simp, by simp, (fun h => by cases h), fun _ => ⟨rfl, rfl⟩, (fun h => by cases h), fun _ => rfl, fun h => absurd rfl h, (fun h => by cases h), fun _ => rfl⟩
  · intro h
    obtain ⟨h1, h2⟩ := h.nonum (by simp)
    have h3 := h.notext (by simp); have h5 := h.nofault (by simp)
    simp only at h1 h2 h3 h5
    subst h1; subst h2; subst h3; subst h5; rfl
theorem rightV_kind4 {m e : Int} {t : ByteArray} {b : Bool} {f : Int} : veq ⟨4, m, e, t, b, f⟩ (badV f) = true ↔ RightV ⟨4, m, e, t, b, f⟩ := by
  rw [veq_true]
  constructor
  · intro h
    unfold badV at h
    split at h
    · rename_i hf
      cases h; exact ⟨by simp, by simp, (fun h => by cases h), fun _ => ⟨rfl, rfl⟩, (fun h => by cases h), fun _ => rfl, fun _ => rfl, fun _ => hf, fun h => absurd rfl h⟩
    · cases h; rename_i hf; exact absurd (by decide) hf
  · intro h
    obtain ⟨h1, h2⟩ := h.nonum (by simp)
    have h3 := h.notext (by simp); have h4 := h.truth (by simp)
    simp only at h1 h2 h3 h4
    subst h1; subst h2; subst h3; subst h4
    unfold badV
    rw [if_pos (h.fault rfl)]
theorem rightV_other {k m e : Int} {t : ByteArray} {b : Bool} {f : Int} (k0 : ¬k = 0) (k1 : ¬k = 1) (k2 : ¬k = 2) (k3 : ¬k = 3) (k4 : ¬k = 4) : ¬ RightV ⟨k, m, e, t, b, f⟩ := fun h => by
  have := h.lo; have := h.hi; simp only at *; omega
theorem rightV_bad (f : Int) : RightV (badV f) := by
  unfold badV
  refine ⟨by simp, by simp, (fun h => by cases h), fun _ => ⟨rfl, rfl⟩, (fun h => by cases h), fun _ => rfl, fun _ => rfl, fun _ => ?_, fun h => absurd rfl h⟩
  simp only
  split
  · assumption
  · omega

theorem Tryz.stood41 : Tryz.prog.stoodInHeld 41 = false := by kernel_rfl
theorem Tryz.guard41 : Tryz.prog.eqGuardType Tryz.prog.depth 41 = false := by kernel_rfl
theorem Tryz.stood39 : Tryz.prog.stoodInHeld 39 = false := by kernel_rfl
theorem Tryz.fields39 : Tryz.prog.fieldsOf 39 = #[{ name := "Mant", type := 3, offset := 0, embedded := false, tag := "", pkgPath := "", byteOffset := 0 }, { name := "Exp", type := 3, offset := 1, embedded := false, tag := "", pkgPath := "", byteOffset := 8 }] := by kernel_rfl
theorem Tryz.fields41 : Tryz.prog.fieldsOf 41 = #[{ name := "Kind", type := 3, offset := 0, embedded := false, tag := "", pkgPath := "", byteOffset := 0 }, { name := "Num", type := 39, offset := 1, embedded := false, tag := "", pkgPath := "", byteOffset := 8 }, { name := "Text", type := 9, offset := 3, embedded := false, tag := "", pkgPath := "", byteOffset := 24 }, { name := "Truth", type := 4, offset := 4, embedded := false, tag := "", pkgPath := "", byteOffset := 40 }, { name := "Fault", type := 3, offset := 5, embedded := false, tag := "", pkgPath := "", byteOffset := 48 }] := by kernel_rfl
theorem Tryz.equal39 (a b c d : Int) (w : World) (n : Nat) : (Op.equalIn (n + 2) 39 (.agg #[.int .i64 a, .int .i64 b]) (.agg #[.int .i64 c, .int .i64 d])).run Tryz.prog w = .ok (a == c && b == d) w := by
  rw [run_equalIn_struct w (n+1) 39 _ _ (by rw [Tryz.fields39]; exact Tryz.underlying39) Tryz.stood39, Tryz.fields39]
  by_cases h1 : a = c
  · by_cases h2 : b = d
    · simp [Op.eqFields, part, isAgg, go_sem, Tryz.underlying3, h1, h2]
    · simp [Op.eqFields, part, isAgg, go_sem, Tryz.underlying3, h1, h2]
  · simp [Op.eqFields, part, isAgg, go_sem, Tryz.underlying3, h1]
set_option maxRecDepth 100000 in
set_option maxHeartbeats 8000000 in
theorem Tryz.equal41 (a b c f a' b' c' f' : Int) (t t' : ByteArray) (q q' : Bool) (w : World) (n : Nat) : (Op.equalIn (n + 3) 41 (.agg #[.int .i64 a, .int .i64 b, .int .i64 c, .string t, .bool q, .int .i64 f]) (.agg #[.int .i64 a', .int .i64 b', .int .i64 c', .string t', .bool q', .int .i64 f'])).run Tryz.prog w = .ok (veq ⟨a, b, c, t, q, f⟩ ⟨a', b', c', t', q', f'⟩) w := by
  rw [run_equalIn_struct w (n+2) 41 _ _ (by rw [Tryz.fields41]; exact Tryz.underlying41) Tryz.stood41, Tryz.fields41]
  unfold veq
  have key : t.toList = t'.toList ↔ (t == t') = true := by rw [beq_toListBytes]; simp
  cases h1 : (a == a') <;> cases h2 : (b == b' && c == c') <;> cases h3 : (t == t') <;> cases h4 : (q == q') <;> cases h5 : (f == f') <;>
    simp [Op.eqFields, part, isAgg, go_sem, Tryz.underlying3, Tryz.underlying4, Tryz.underlying9, Tryz.equal39, key, h1, h2, h3, h4, h5]
@[go_sem ↓] theorem Tryz.eql41 (a b c f a' b' c' f' : Int) (t t' : ByteArray) (q q' : Bool) (w : World) : (binOp .eql 41 (.agg #[.int .i64 a, .int .i64 b, .int .i64 c, .string t, .bool q, .int .i64 f]) (.agg #[.int .i64 a', .int .i64 b', .int .i64 c', .string t', .bool q', .int .i64 f'])).run Tryz.prog w = .ok (.bool (veq ⟨a, b, c, t, q, f⟩ ⟨a', b', c', t', q', f'⟩)) w := by
  rw [run_eql_struct, Tryz.equal41]; rfl
@[go_sem ↓] theorem Tryz.neq41 (a b c f a' b' c' f' : Int) (t t' : ByteArray) (q q' : Bool) (w : World) : (binOp .neq 41 (.agg #[.int .i64 a, .int .i64 b, .int .i64 c, .string t, .bool q, .int .i64 f]) (.agg #[.int .i64 a', .int .i64 b', .int .i64 c', .string t', .bool q', .int .i64 f'])).run Tryz.prog w = .ok (.bool (!(veq ⟨a, b, c, t, q, f⟩ ⟨a', b', c', t', q', f'⟩))) w := by
  rw [run_neq_struct, Tryz.equal41]; rfl
@[go_sem ↓] theorem Tryz.eqg41 (op : BinOp) (x y : Operand) (xs ys : Array Value) (w : World) : (eqGuard op 41 x y (.agg xs) (.agg ys)).run Tryz.prog w = .ok () w := run_eqGuard_agg w op 41 x y xs ys Tryz.guard41

end Go.Proofs.YtdmbppgogdkpdaaGreatDoor
namespace Go.Proofs.YtdmbppgogdkpdaaGreatDoor
open Go.RowKit
set_option maxRecDepth 100000 in
set_option maxHeartbeats 4000000 in
theorem vof_c (m e : Int) (w : World) : Calls Tryz.prog 229 #[.agg #[.int .i64 m, .int .i64 e]] w fun x w' => x = .returned (.agg #[.int .i64 1, .int .i64 m, .int .i64 e, .string ⟨#[]⟩, .bool false, .int .i64 0]) ∧ Below w.heap.size w w' := by
  go_enter Tryz.func229, Tryz.ntmps229
  go_wp2_with fail
  exact bodyPost_ret (v := .agg #[.int .i64 1, .int .i64 m, .int .i64 e, .string ⟨#[]⟩, .bool false, .int .i64 0]) (by simp [results, Tryz.f229, go_sem]) rfl ⟨rfl, ((Below.refl _ w).alloc (Nat.le_refl _) _).alloc (by simp) _⟩
set_option maxRecDepth 100000 in
set_option maxHeartbeats 4000000 in
theorem vtruth_c (b : Bool) (w : World) : Calls Tryz.prog 123 #[.bool b] w fun x w' => x = .returned (.agg #[.int .i64 3, .int .i64 0, .int .i64 0, .string ⟨#[]⟩, .bool b, .int .i64 0]) ∧ Below w.heap.size w w' := by
  go_enter Tryz.func123, Tryz.ntmps123
  go_wp2_with fail
  exact bodyPost_ret (v := .agg #[.int .i64 3, .int .i64 0, .int .i64 0, .string ⟨#[]⟩, .bool b, .int .i64 0]) (by simp [results, Tryz.f123, go_sem]) rfl ⟨rfl, (Below.refl _ w).alloc (Nat.le_refl _) _⟩
set_option maxRecDepth 100000 in
set_option maxHeartbeats 4000000 in
theorem vbad_c (f : Int) (w : World) : Calls Tryz.prog 82 #[.int .i64 f] w fun x w' => x = .returned (.agg (badV f).cs.toArray) ∧ Below w.heap.size w w' := by
  by_cases h1 : f < 1
  · have e : badV f = ⟨4, 0, 0, ⟨#[]⟩, false, 9⟩ := by unfold badV; rw [if_neg (by omega)]
    rw [e]
    clear e
    go_enter Tryz.func82, Tryz.ntmps82
    go_wp2_with fail
    exact bodyPost_ret (v := .agg #[.int .i64 4, .int .i64 0, .int .i64 0, .string ⟨#[]⟩, .bool false, .int .i64 9]) (by simp [results, Tryz.f82, go_sem]) rfl ⟨rfl, (Below.refl _ w).alloc (Nat.le_refl _) _⟩
  · by_cases h2 : 9 < f
    · have e : badV f = ⟨4, 0, 0, ⟨#[]⟩, false, 9⟩ := by unfold badV; rw [if_neg (by omega)]
      rw [e]
      clear e
      go_enter Tryz.func82, Tryz.ntmps82
      go_wp2_with fail
      exact bodyPost_ret (v := .agg #[.int .i64 4, .int .i64 0, .int .i64 0, .string ⟨#[]⟩, .bool false, .int .i64 9]) (by simp [results, Tryz.f82, go_sem]) rfl ⟨rfl, (Below.refl _ w).alloc (Nat.le_refl _) _⟩
    · have e : badV f = ⟨4, 0, 0, ⟨#[]⟩, false, f⟩ := by unfold badV; rw [if_pos (by omega)]
      rw [e]
      clear e
      go_enter Tryz.func82, Tryz.ntmps82
      go_wp2_with fail
      exact bodyPost_ret (v := .agg #[.int .i64 4, .int .i64 0, .int .i64 0, .string ⟨#[]⟩, .bool false, .int .i64 f]) (by simp [results, Tryz.f82, go_sem]) rfl ⟨rfl, (Below.refl _ w).alloc (Nat.le_refl _) _⟩
theorem badV_in {f : Int} (h : 1 ≤ f ∧ f ≤ 9) : badV f = ⟨4, 0, 0, ⟨#[]⟩, false, f⟩ := by unfold badV; rw [if_pos h]
theorem vbadn_c (f : Int) (h : 1 ≤ f ∧ f ≤ 9) (w : World) : Calls Tryz.prog 82 #[.int .i64 f] w fun x w' => x = .returned (.agg #[.int .i64 4, .int .i64 0, .int .i64 0, .string ⟨#[]⟩, .bool false, .int .i64 f]) ∧ Below w.heap.size w w' := by
  have := vbad_c f w
  rw [badV_in h] at this
  exact this
def put6 (W : World) (X : Nat) (a b c d e f : Value) : World := (((((W.setCell ⟨X, 0, none⟩ a).setCell ⟨X, 1, none⟩ b).setCell ⟨X, 2, none⟩ c).setCell ⟨X, 3, none⟩ d).setCell ⟨X, 4, none⟩ e).setCell ⟨X, 5, none⟩ f
theorem blk_put6 {W : World} {X : Nat} {ty : TypeId} {u0 u1 u2 u3 u4 u5 : Value} (h : Blk W X ty #[u0, u1, u2, u3, u4, u5]) (a b c d e f : Value) : Blk (put6 W X a b c d e f) X ty #[a, b, c, d, e, f] := by
  have := (((((h.store 0 a).store 1 b).store 2 c).store 3 d).store 4 e).store 5 f
  simp only [List.setIfInBounds_toArray, List.set_cons_succ, List.set_cons_zero] at this
  exact this
theorem below_put6 {n : Nat} {w W : World} {X : Nat} (h : Below n w W) (hX : n ≤ X) (a b c d e f : Value) : Below n w (put6 W X a b c d e f) := (((((h.setCell hX a).setCell hX b).setCell hX c).setCell hX d).setCell hX e).setCell hX f
def textV (t : ByteArray) : Val := if t.size ≤ 255 then ⟨2, 0, 0, t, false, 0⟩ else badV 2
set_option maxRecDepth 100000 in
set_option maxHeartbeats 4000000 in
theorem vtext_c (t : ByteArray) (w : World) : Calls Tryz.prog 121 #[.string t] w fun x w' => x = .returned (.agg (textV t).cs.toArray) ∧ Below w.heap.size w w' := by
  by_cases h1 : t.size ≤ 255
  · have e : textV t = ⟨2, 0, 0, t, false, 0⟩ := if_pos h1
    have hd : decide ((255 : Int) < (t.size : Int)) = false := decide_eq_false (by omega)
    rw [e]
    clear e
    go_enter Tryz.func121, Tryz.ntmps121
    go_wp2_with fail
    exact bodyPost_ret (v := .agg #[.int .i64 2, .int .i64 0, .int .i64 0, .string t, .bool false, .int .i64 0]) (by simp [results, Tryz.f121, go_sem]) rfl ⟨rfl, (Below.refl _ w).alloc (Nat.le_refl _) _⟩
  · have e : textV t = ⟨4, 0, 0, ⟨#[]⟩, false, 2⟩ := (if_neg h1).trans (badV_in (by omega))
    have hd : decide ((255 : Int) < (t.size : Int)) = true := decide_eq_true (by omega)
    rw [e]
    clear e
    have HB := Lib.hid ((Below.refl _ w).alloc (Nat.le_refl _) (.cells #[.int .i64 0, .int .i64 0, .int .i64 0, .string ⟨#[]⟩, .bool false, .int .i64 0] 41))
    have HX := Lib.hid (Blk.new w 41 #[.int .i64 0, .int .i64 0, .int .i64 0, .string ⟨#[]⟩, .bool false, .int .i64 0])
    go_enter Tryz.func121, Tryz.ntmps121
    go_wp2_with fail
    refine (vbadn_c 2 (by omega) _).mono ?_
    rintro x w1 ⟨rfl, B1⟩
    have bX1 := Lib.hid (HX.out.kept (B1.block _ HX.out.lt))
    have HB1 := Lib.hid (HB.out.trans (B1.mono HB.out.size))
    clear B1 HX HB
    have c0 := bX1.out.cell 0
    have c1 := bX1.out.cell 1
    have c2 := bX1.out.cell 2
    have c3 := bX1.out.cell 3
    have c4 := bX1.out.cell 4
    have c5 := bX1.out.cell 5
    have f0 := bX1.out.frozen 0
    have f1 := bX1.out.frozen 1
    have f2 := bX1.out.frozen 2
    have f3 := bX1.out.frozen 3
    have f4 := bX1.out.frozen 4
    have f5 := bX1.out.frozen 5
    have lX := bX1.out.lt
    simp only [List.getElem?_toArray, List.getElem?_cons_zero, List.getElem?_cons_succ] at c0 c1 c2 c3 c4 c5
    go_wp2_with fail
    change bodyPost _ _ _ _ _ (put6 w1 w.heap.size (.int .i64 4) (.int .i64 0) (.int .i64 0) (.string ⟨#[]⟩) (.bool false) (.int .i64 2))
    have bX2 := blk_put6 bX1.out (.int .i64 4) (.int .i64 0) (.int .i64 0) (.string ⟨#[]⟩) (.bool false) (.int .i64 2)
    have HB2 := below_put6 HB1.out (Nat.le_refl _) (.int .i64 4) (.int .i64 0) (.int .i64 0) (.string ⟨#[]⟩) (.bool false) (.int .i64 2)
    generalize put6 w1 w.heap.size (.int .i64 4) (.int .i64 0) (.int .i64 0) (.string ⟨#[]⟩) (.bool false) (.int .i64 2) = W2 at *
    have d0 := bX2.cell 0
    have d1 := bX2.cell 1
    have d2 := bX2.cell 2
    have d3 := bX2.cell 3
    have d4 := bX2.cell 4
    have d5 := bX2.cell 5
    simp only [List.getElem?_toArray, List.getElem?_cons_zero, List.getElem?_cons_succ] at d0 d1 d2 d3 d4 d5
    exact bodyPost_ret (v := .agg #[.int .i64 4, .int .i64 0, .int .i64 0, .string ⟨#[]⟩, .bool false, .int .i64 2]) (by simp [results, Tryz.f121, go_sem, d0, d1, d2, d3, d4, d5]) rfl ⟨rfl, HB2⟩
end Go.Proofs.YtdmbppgogdkpdaaGreatDoor
namespace Go.Proofs.YtdmbppgogdkpdaaGreatDoor
open Go.RowKit
def RgV (w : World) (x : Val) (e : Ending) (w' : World) : Prop := ∃ b : Bool, e = .returned (.bool b) ∧ (b = true ↔ RightV x) ∧ Below w.heap.size w w'
theorem vtext_le (t : ByteArray) (h : t.size ≤ 255) (w : World) : Calls Tryz.prog 121 #[.string t] w fun x w' => x = .returned (.agg #[.int .i64 2, .int .i64 0, .int .i64 0, .string t, .bool false, .int .i64 0]) ∧ Below w.heap.size w w' := by
  have := vtext_c t w
  unfold textV at this
  rw [if_pos h] at this
  exact this
theorem vtext_gt (t : ByteArray) (h : ¬ t.size ≤ 255) (w : World) : Calls Tryz.prog 121 #[.string t] w fun x w' => x = .returned (.agg #[.int .i64 4, .int .i64 0, .int .i64 0, .string ⟨#[]⟩, .bool false, .int .i64 2]) ∧ Below w.heap.size w w' := by
  have := vtext_c t w
  unfold textV at this
  rw [if_neg h, badV_in (by omega)] at this
  exact this
set_option maxRecDepth 100000 in
set_option maxHeartbeats 4000000 in
theorem vright_k2 (w : World) (m ex : Int) (t : ByteArray) (b : Bool) (f : Int)(ht : t.size ≤ 255) : Calls Tryz.prog 126 #[.agg #[.int .i64 2, .int .i64 m, .int .i64 ex, .string t, .bool b, .int .i64 f]] w (RgV w ⟨2, m, ex, t, b, f⟩) := by
  have HB := Lib.hid ((Below.refl _ w).alloc (Nat.le_refl _) (.cells #[.int .i64 2, .int .i64 m, .int .i64 ex, .string t, .bool b, .int .i64 f] 41))
  have bX := Lib.hid (Blk.new w 41 #[.int .i64 2, .int .i64 m, .int .i64 ex, .string t, .bool b, .int .i64 f])
  have HI := Lib.hid (show veq ⟨2, m, ex, t, b, f⟩ ⟨2, 0, 0, t, false, 0⟩ = true ↔ RightV ⟨2, m, ex, t, b, f⟩ by have := rightV_kind2 (m := m) (e := ex) (t := t) (b := b) (f := f); rw [if_pos ht] at this; exact this)
  have HT := Lib.hid (vtext_le t ht)
  clear ht
  go_enter Tryz.func126, Tryz.ntmps126
  go_wp2_with fail
  generalize w.alloc (.cells #[.int .i64 2, .int .i64 m, .int .i64 ex, .string t, .bool b, .int .i64 f] 41) = V at *
  have HC : AllCells V.drew [(⟨w.heap.size, 0, none⟩, .int .i64 2), (⟨w.heap.size, 1, none⟩, .int .i64 m), (⟨w.heap.size, 2, none⟩, .int .i64 ex), (⟨w.heap.size, 3, none⟩, .string t), (⟨w.heap.size, 4, none⟩, .bool b), (⟨w.heap.size, 5, none⟩, .int .i64 f)] := ⟨bX.out.cell 0, bX.out.cell 1, bX.out.cell 2, bX.out.cell 3, bX.out.cell 4, bX.out.cell 5, trivial⟩
  refine region_free _ [0, 1, 2] 3 (by kernel_rfl) (by kernel_rfl) (by kernel_rfl) (by kernel_rfl) (by kernel_rfl) (fun _ _ _ _ _ h => h) HC ?_
  intro hne hu
  simp only [AllCells] at hu
  simp only [pick, List.take_succ_cons, List.take_zero, List.drop_succ_cons, List.drop_zero, List.cons_append, List.nil_append]
  repeat (go_big_quiet_step (fail))
  refine wpQuiet_nil ?_
  clear hne hu
  refine anyN_oneL 3 (by kernel_rfl) ?_
  simp only [List.take_succ_cons, List.take_zero, List.drop_succ_cons, List.drop_zero]
  go_wp2_with fail
  refine (HT.out _).mono ?_
  rintro e w1 ⟨rfl, b1⟩
  have HC1 := AllCells.below HC b1
  have HB1 := Lib.hid (HB.out.drew.trans (b1.mono HB.out.size))
  clear b1 HC HB bX
  go_wp2_with fail
  refine And.intro (fun _ => HC1) ?_
  refine anyN_more [4, 5] 0 (by kernel_rfl) (by kernel_rfl) (by kernel_rfl) (by kernel_rfl) (fun _ _ _ _ _ h => h) HC1 ?_
  intro hne hu
  simp only [AllCells] at hu
  simp only [pick, List.take_succ_cons, List.take_zero, List.drop_succ_cons, List.drop_zero, List.cons_append, List.nil_append]
  repeat (go_big_quiet_step (fail))
  refine wpQuiet_nil ?_
  clear hne hu
  refine ⟨by kernel_rfl, ?_⟩
  clear HC1
  go_wp2_with fail
  go_ret
  exact ⟨_, rfl, HI.out, HB1.out⟩
set_option maxRecDepth 100000 in
set_option maxHeartbeats 4000000 in
theorem vright_k2g (w : World) (m ex : Int) (t : ByteArray) (b : Bool) (f : Int)(ht : ¬ t.size ≤ 255) : Calls Tryz.prog 126 #[.agg #[.int .i64 2, .int .i64 m, .int .i64 ex, .string t, .bool b, .int .i64 f]] w (RgV w ⟨2, m, ex, t, b, f⟩) := by
  have HB := Lib.hid ((Below.refl _ w).alloc (Nat.le_refl _) (.cells #[.int .i64 2, .int .i64 m, .int .i64 ex, .string t, .bool b, .int .i64 f] 41))
  have bX := Lib.hid (Blk.new w 41 #[.int .i64 2, .int .i64 m, .int .i64 ex, .string t, .bool b, .int .i64 f])
  have HI := Lib.hid (show veq ⟨2, m, ex, t, b, f⟩ ⟨4, 0, 0, ⟨#[]⟩, false, 2⟩ = true ↔ RightV ⟨2, m, ex, t, b, f⟩ by have := rightV_kind2 (m := m) (e := ex) (t := t) (b := b) (f := f); rw [if_neg ht, badV_in (by omega)] at this; exact this)
  have HT := Lib.hid (vtext_gt t ht)
  clear ht
  go_enter Tryz.func126, Tryz.ntmps126
  go_wp2_with fail
  generalize w.alloc (.cells #[.int .i64 2, .int .i64 m, .int .i64 ex, .string t, .bool b, .int .i64 f] 41) = V at *
  have HC : AllCells V.drew [(⟨w.heap.size, 0, none⟩, .int .i64 2), (⟨w.heap.size, 1, none⟩, .int .i64 m), (⟨w.heap.size, 2, none⟩, .int .i64 ex), (⟨w.heap.size, 3, none⟩, .string t), (⟨w.heap.size, 4, none⟩, .bool b), (⟨w.heap.size, 5, none⟩, .int .i64 f)] := ⟨bX.out.cell 0, bX.out.cell 1, bX.out.cell 2, bX.out.cell 3, bX.out.cell 4, bX.out.cell 5, trivial⟩
  refine region_free _ [0, 1, 2] 3 (by kernel_rfl) (by kernel_rfl) (by kernel_rfl) (by kernel_rfl) (by kernel_rfl) (fun _ _ _ _ _ h => h) HC ?_
  intro hne hu
  simp only [AllCells] at hu
  simp only [pick, List.take_succ_cons, List.take_zero, List.drop_succ_cons, List.drop_zero, List.cons_append, List.nil_append]
  repeat (go_big_quiet_step (fail))
  refine wpQuiet_nil ?_
  clear hne hu
  refine anyN_oneL 3 (by kernel_rfl) ?_
  simp only [List.take_succ_cons, List.take_zero, List.drop_succ_cons, List.drop_zero]
  go_wp2_with fail
  refine (HT.out _).mono ?_
  rintro e w1 ⟨rfl, b1⟩
  have HC1 := AllCells.below HC b1
  have HB1 := Lib.hid (HB.out.drew.trans (b1.mono HB.out.size))
  clear b1 HC HB bX
  go_wp2_with fail
  refine And.intro (fun _ => HC1) ?_
  refine anyN_more [4, 5] 0 (by kernel_rfl) (by kernel_rfl) (by kernel_rfl) (by kernel_rfl) (fun _ _ _ _ _ h => h) HC1 ?_
  intro hne hu
  simp only [AllCells] at hu
  simp only [pick, List.take_succ_cons, List.take_zero, List.drop_succ_cons, List.drop_zero, List.cons_append, List.nil_append]
  repeat (go_big_quiet_step (fail))
  refine wpQuiet_nil ?_
  clear hne hu
  refine ⟨by kernel_rfl, ?_⟩
  clear HC1
  go_wp2_with fail
  go_ret
  exact ⟨_, rfl, HI.out, HB1.out⟩
set_option maxRecDepth 100000 in
set_option maxHeartbeats 4000000 in
theorem vright_k3 (w : World) (m ex : Int) (t : ByteArray) (b : Bool) (f : Int) : Calls Tryz.prog 126 #[.agg #[.int .i64 3, .int .i64 m, .int .i64 ex, .string t, .bool b, .int .i64 f]] w (RgV w ⟨3, m, ex, t, b, f⟩) := by
  have HB := Lib.hid ((Below.refl _ w).alloc (Nat.le_refl _) (.cells #[.int .i64 3, .int .i64 m, .int .i64 ex, .string t, .bool b, .int .i64 f] 41))
  have bX := Lib.hid (Blk.new w 41 #[.int .i64 3, .int .i64 m, .int .i64 ex, .string t, .bool b, .int .i64 f])
  have HI := Lib.hid (rightV_kind3 (m := m) (e := ex) (t := t) (b := b) (f := f))
  go_enter Tryz.func126, Tryz.ntmps126
  go_wp2_with fail
  generalize w.alloc (.cells #[.int .i64 3, .int .i64 m, .int .i64 ex, .string t, .bool b, .int .i64 f] 41) = V at *
  have HC : AllCells V.drew [(⟨w.heap.size, 0, none⟩, .int .i64 3), (⟨w.heap.size, 1, none⟩, .int .i64 m), (⟨w.heap.size, 2, none⟩, .int .i64 ex), (⟨w.heap.size, 3, none⟩, .string t), (⟨w.heap.size, 4, none⟩, .bool b), (⟨w.heap.size, 5, none⟩, .int .i64 f)] := ⟨bX.out.cell 0, bX.out.cell 1, bX.out.cell 2, bX.out.cell 3, bX.out.cell 4, bX.out.cell 5, trivial⟩
  refine region_free _ [0, 1, 2] 3 (by kernel_rfl) (by kernel_rfl) (by kernel_rfl) (by kernel_rfl) (by kernel_rfl) (fun _ _ _ _ _ h => h) HC ?_
  intro hne hu
  simp only [AllCells] at hu
  simp only [pick, List.take_succ_cons, List.take_zero, List.drop_succ_cons, List.drop_zero, List.cons_append, List.nil_append]
  repeat (go_big_quiet_step (fail))
  refine wpQuiet_nil ?_
  clear hne hu
  refine anyN_oneL 3 (by kernel_rfl) ?_
  simp only [List.take_succ_cons, List.take_zero, List.drop_succ_cons, List.drop_zero]
  go_wp2_with fail
  refine (vtruth_c b _).mono ?_
  rintro e w1 ⟨rfl, b1⟩
  have HC1 := AllCells.below HC b1
  have HB1 := Lib.hid (HB.out.drew.trans (b1.mono HB.out.size))
  clear b1 HC HB bX
  go_wp2_with fail
  refine And.intro (fun _ => HC1) ?_
  refine anyN_more [4, 5] 0 (by kernel_rfl) (by kernel_rfl) (by kernel_rfl) (by kernel_rfl) (fun _ _ _ _ _ h => h) HC1 ?_
  intro hne hu
  simp only [AllCells] at hu
  simp only [pick, List.take_succ_cons, List.take_zero, List.drop_succ_cons, List.drop_zero, List.cons_append, List.nil_append]
  repeat (go_big_quiet_step (fail))
  refine wpQuiet_nil ?_
  clear hne hu
  refine ⟨by kernel_rfl, ?_⟩
  clear HC1
  go_wp2_with fail
  go_ret
  exact ⟨_, rfl, HI.out, HB1.out⟩
theorem badV_out {f : Int} (h : ¬ (1 ≤ f ∧ f ≤ 9)) : badV f = ⟨4, 0, 0, ⟨#[]⟩, false, 9⟩ := by unfold badV; rw [if_neg h]
theorem vbado_c (f : Int) (h : ¬ (1 ≤ f ∧ f ≤ 9)) (w : World) : Calls Tryz.prog 82 #[.int .i64 f] w fun x w' => x = .returned (.agg #[.int .i64 4, .int .i64 0, .int .i64 0, .string ⟨#[]⟩, .bool false, .int .i64 9]) ∧ Below w.heap.size w w' := by
  have := vbad_c f w
  rw [badV_out h] at this
  exact this
set_option maxRecDepth 100000 in
set_option maxHeartbeats 4000000 in
theorem vright_k4 (w : World) (m ex : Int) (t : ByteArray) (b : Bool) (f : Int)(h : 1 ≤ f ∧ f ≤ 9) : Calls Tryz.prog 126 #[.agg #[.int .i64 4, .int .i64 m, .int .i64 ex, .string t, .bool b, .int .i64 f]] w (RgV w ⟨4, m, ex, t, b, f⟩) := by
  have HB := Lib.hid ((Below.refl _ w).alloc (Nat.le_refl _) (.cells #[.int .i64 4, .int .i64 m, .int .i64 ex, .string t, .bool b, .int .i64 f] 41))
  have bX := Lib.hid (Blk.new w 41 #[.int .i64 4, .int .i64 m, .int .i64 ex, .string t, .bool b, .int .i64 f])
  have HI := Lib.hid (show veq ⟨4, m, ex, t, b, f⟩ ⟨4, 0, 0, ⟨#[]⟩, false, f⟩ = true ↔ RightV ⟨4, m, ex, t, b, f⟩ by have := rightV_kind4 (m := m) (e := ex) (t := t) (b := b) (f := f); rw [badV_in h] at this; exact this)
  have HT := Lib.hid (vbadn_c f h)
  clear h
  go_enter Tryz.func126, Tryz.ntmps126
  go_wp2_with fail
  generalize w.alloc (.cells #[.int .i64 4, .int .i64 m, .int .i64 ex, .string t, .bool b, .int .i64 f] 41) = V at *
  have HC : AllCells V.drew [(⟨w.heap.size, 0, none⟩, .int .i64 4), (⟨w.heap.size, 1, none⟩, .int .i64 m), (⟨w.heap.size, 2, none⟩, .int .i64 ex), (⟨w.heap.size, 3, none⟩, .string t), (⟨w.heap.size, 4, none⟩, .bool b), (⟨w.heap.size, 5, none⟩, .int .i64 f)] := ⟨bX.out.cell 0, bX.out.cell 1, bX.out.cell 2, bX.out.cell 3, bX.out.cell 4, bX.out.cell 5, trivial⟩
  refine region_free _ [0, 1, 2] 3 (by kernel_rfl) (by kernel_rfl) (by kernel_rfl) (by kernel_rfl) (by kernel_rfl) (fun _ _ _ _ _ h => h) HC ?_
  intro hne hu
  simp only [AllCells] at hu
  simp only [pick, List.take_succ_cons, List.take_zero, List.drop_succ_cons, List.drop_zero, List.cons_append, List.nil_append]
  repeat (go_big_quiet_step (fail))
  refine wpQuiet_nil ?_
  clear hne hu
  refine anyN_oneL 3 (by kernel_rfl) ?_
  simp only [List.take_succ_cons, List.take_zero, List.drop_succ_cons, List.drop_zero]
  go_wp2_with fail
  refine (HT.out _).mono ?_
  rintro e w1 ⟨rfl, b1⟩
  have HC1 := AllCells.below HC b1
  have HB1 := Lib.hid (HB.out.drew.trans (b1.mono HB.out.size))
  clear b1 HC HB bX
  go_wp2_with fail
  refine And.intro (fun _ => HC1) ?_
  refine anyN_more [4, 5] 0 (by kernel_rfl) (by kernel_rfl) (by kernel_rfl) (by kernel_rfl) (fun _ _ _ _ _ h => h) HC1 ?_
  intro hne hu
  simp only [AllCells] at hu
  simp only [pick, List.take_succ_cons, List.take_zero, List.drop_succ_cons, List.drop_zero, List.cons_append, List.nil_append]
  repeat (go_big_quiet_step (fail))
  refine wpQuiet_nil ?_
  clear hne hu
  refine ⟨by kernel_rfl, ?_⟩
  clear HC1
  go_wp2_with fail
  go_ret
  exact ⟨_, rfl, HI.out, HB1.out⟩
set_option maxRecDepth 100000 in
set_option maxHeartbeats 4000000 in
theorem vright_k4g (w : World) (m ex : Int) (t : ByteArray) (b : Bool) (f : Int)(h : ¬ (1 ≤ f ∧ f ≤ 9)) : Calls Tryz.prog 126 #[.agg #[.int .i64 4, .int .i64 m, .int .i64 ex, .string t, .bool b, .int .i64 f]] w (RgV w ⟨4, m, ex, t, b, f⟩) := by
  have HB := Lib.hid ((Below.refl _ w).alloc (Nat.le_refl _) (.cells #[.int .i64 4, .int .i64 m, .int .i64 ex, .string t, .bool b, .int .i64 f] 41))
  have bX := Lib.hid (Blk.new w 41 #[.int .i64 4, .int .i64 m, .int .i64 ex, .string t, .bool b, .int .i64 f])
  have HI := Lib.hid (show veq ⟨4, m, ex, t, b, f⟩ ⟨4, 0, 0, ⟨#[]⟩, false, 9⟩ = true ↔ RightV ⟨4, m, ex, t, b, f⟩ by have := rightV_kind4 (m := m) (e := ex) (t := t) (b := b) (f := f); rw [badV_out h] at this; exact this)
  have HT := Lib.hid (vbado_c f h)
  clear h
  go_enter Tryz.func126, Tryz.ntmps126
  go_wp2_with fail
  generalize w.alloc (.cells #[.int .i64 4, .int .i64 m, .int .i64 ex, .string t, .bool b, .int .i64 f] 41) = V at *
  have HC : AllCells V.drew [(⟨w.heap.size, 0, none⟩, .int .i64 4), (⟨w.heap.size, 1, none⟩, .int .i64 m), (⟨w.heap.size, 2, none⟩, .int .i64 ex), (⟨w.heap.size, 3, none⟩, .string t), (⟨w.heap.size, 4, none⟩, .bool b), (⟨w.heap.size, 5, none⟩, .int .i64 f)] := ⟨bX.out.cell 0, bX.out.cell 1, bX.out.cell 2, bX.out.cell 3, bX.out.cell 4, bX.out.cell 5, trivial⟩
  refine region_free _ [0, 1, 2] 3 (by kernel_rfl) (by kernel_rfl) (by kernel_rfl) (by kernel_rfl) (by kernel_rfl) (fun _ _ _ _ _ h => h) HC ?_
  intro hne hu
  simp only [AllCells] at hu
  simp only [pick, List.take_succ_cons, List.take_zero, List.drop_succ_cons, List.drop_zero, List.cons_append, List.nil_append]
  repeat (go_big_quiet_step (fail))
  refine wpQuiet_nil ?_
  clear hne hu
  refine anyN_oneL 3 (by kernel_rfl) ?_
  simp only [List.take_succ_cons, List.take_zero, List.drop_succ_cons, List.drop_zero]
  go_wp2_with fail
  refine (HT.out _).mono ?_
  rintro e w1 ⟨rfl, b1⟩
  have HC1 := AllCells.below HC b1
  have HB1 := Lib.hid (HB.out.drew.trans (b1.mono HB.out.size))
  clear b1 HC HB bX
  go_wp2_with fail
  refine And.intro (fun _ => HC1) ?_
  refine anyN_more [4, 5] 0 (by kernel_rfl) (by kernel_rfl) (by kernel_rfl) (by kernel_rfl) (fun _ _ _ _ _ h => h) HC1 ?_
  intro hne hu
  simp only [AllCells] at hu
  simp only [pick, List.take_succ_cons, List.take_zero, List.drop_succ_cons, List.drop_zero, List.cons_append, List.nil_append]
  repeat (go_big_quiet_step (fail))
  refine wpQuiet_nil ?_
  clear hne hu
  refine ⟨by kernel_rfl, ?_⟩
  clear HC1
  go_wp2_with fail
  go_ret
  exact ⟨_, rfl, HI.out, HB1.out⟩
set_option maxRecDepth 100000 in
set_option maxHeartbeats 4000000 in
theorem vright_k0 (w : World) (m ex : Int) (t : ByteArray) (b : Bool) (f : Int) : Calls Tryz.prog 126 #[.agg #[.int .i64 0, .int .i64 m, .int .i64 ex, .string t, .bool b, .int .i64 f]] w (RgV w ⟨0, m, ex, t, b, f⟩) := by
  go_enter Tryz.func126, Tryz.ntmps126
  go_wp2_with fail
  go_ret
  exact ⟨_, rfl, rightV_kind0, (Below.refl _ w).alloc (Nat.le_refl _) _⟩
set_option maxRecDepth 100000 in
set_option maxHeartbeats 4000000 in
theorem vright_kk (w : World) (m ex : Int) (t : ByteArray) (b : Bool) (f : Int) (k : Int) (k0 : ¬k = 0) (k1 : ¬k = 1) (k2 : ¬k = 2) (k3 : ¬k = 3) (k4 : ¬k = 4) : Calls Tryz.prog 126 #[.agg #[.int .i64 k, .int .i64 m, .int .i64 ex, .string t, .bool b, .int .i64 f]] w (RgV w ⟨k, m, ex, t, b, f⟩) := by
  have HI := Lib.hid (rightV_other (m := m) (e := ex) (t := t) (b := b) (f := f) k0 k1 k2 k3 k4)
  go_enter Tryz.func126, Tryz.ntmps126
  go_wp2_with fail
  go_ret
  exact ⟨_, rfl, ⟨(fun h => by cases h), fun h => absurd h HI.out⟩, (Below.refl _ w).alloc (Nat.le_refl _) _⟩
end Go.Proofs.YtdmbppgogdkpdaaGreatDoor
namespace Go.Proofs.YtdmbppgogdkpdaaGreatDoor
open Go.RowKit
set_option maxRecDepth 100000 in
set_option maxHeartbeats 4000000 in
theorem vright_k1 (w : World) (m ex : Int) (t : ByteArray) (b : Bool) (f : Int) (h1 : -9223372036854775808 ≤ m) (h2 : m ≤ 9223372036854775807) (h3 : -9223372036854775808 ≤ ex) (h4 : ex ≤ 9223372036854775807) : Calls Tryz.prog 126 #[.agg #[.int .i64 1, .int .i64 m, .int .i64 ex, .string t, .bool b, .int .i64 f]] w (RgV w ⟨1, m, ex, t, b, f⟩) := by
  have HB := Lib.hid ((Below.refl _ w).alloc (Nat.le_refl _) (.cells #[.int .i64 1, .int .i64 m, .int .i64 ex, .string t, .bool b, .int .i64 f] 41))
  have bX := Lib.hid (Blk.new w 41 #[.int .i64 1, .int .i64 m, .int .i64 ex, .string t, .bool b, .int .i64 f])
  have HI := Lib.hid (rightV_kind1 (m := m) (e := ex) (t := t) (b := b) (f := f))
  have HN := Lib.hid (nright_c m ex h1 h2 h3 h4)
  clear h1 h2 h3 h4
  go_enter Tryz.func126, Tryz.ntmps126
  go_wp2_with fail
  generalize w.alloc (.cells #[.int .i64 1, .int .i64 m, .int .i64 ex, .string t, .bool b, .int .i64 f] 41) = V at *
  have HC : AllCells V.drew [(⟨w.heap.size, 0, none⟩, .int .i64 1), (⟨w.heap.size, 1, none⟩, .int .i64 m), (⟨w.heap.size, 2, none⟩, .int .i64 ex), (⟨w.heap.size, 3, none⟩, .string t), (⟨w.heap.size, 4, none⟩, .bool b), (⟨w.heap.size, 5, none⟩, .int .i64 f)] := ⟨bX.out.cell 0, bX.out.cell 1, bX.out.cell 2, bX.out.cell 3, bX.out.cell 4, bX.out.cell 5, trivial⟩
  refine region_free _ [0, 1] 9 (by kernel_rfl) (by kernel_rfl) (by kernel_rfl) (by kernel_rfl) (by kernel_rfl) (fun _ _ _ _ _ h => h) HC ?_
  intro hne hu
  simp only [AllCells] at hu
  simp only [pick, List.take_succ_cons, List.take_zero, List.drop_succ_cons, List.drop_zero, List.cons_append, List.nil_append]
  repeat (go_big_quiet_step (fail))
  refine wpQuiet_nil ?_
  clear hne hu
  refine anyN_oneL 2 (by kernel_rfl) ?_
  simp only [List.take_succ_cons, List.take_zero, List.drop_succ_cons, List.drop_zero]
  go_wp2_with fail
  refine (HN.out _).mono ?_
  rintro e w1 ⟨b1, rfl, r1, B1⟩
  have HC1 := AllCells.below HC B1
  have HB1 := Lib.hid (HB.out.drew.trans (B1.mono HB.out.size))
  have HR := Lib.hid r1
  clear B1 HC HB bX r1
  cases b1
  · go_wp2_with fail
    refine And.intro (fun _ => HC1) ?_
    refine anyN_oneL 3 (by kernel_rfl) ?_
    simp only [List.take_succ_cons, List.take_zero, List.drop_succ_cons, List.drop_zero]
    go_wp2_with fail
    refine And.intro (fun _ => HC1) ?_
    refine anyN_more [4, 5, 6] 4 (by kernel_rfl) (by kernel_rfl) (by kernel_rfl) (by kernel_rfl) (fun _ _ _ _ _ h => h) HC1 ?_
    intro hne hu
    simp only [AllCells] at hu
    simp only [pick, List.take_succ_cons, List.take_zero, List.drop_succ_cons, List.drop_zero, List.cons_append, List.nil_append]
    repeat (go_big_quiet_step (fail))
    refine wpQuiet_nil ?_
    clear hne hu
    refine anyN_oneL 7 (by kernel_rfl) ?_
    simp only [List.take_succ_cons, List.take_zero, List.drop_succ_cons, List.drop_zero]
    go_wp2_with fail
    refine And.intro (fun _ => HC1) ?_
    refine anyN_more [8, 9, 10] 0 (by kernel_rfl) (by kernel_rfl) (by kernel_rfl) (by kernel_rfl) (fun _ _ _ _ _ h => h) HC1 ?_
    intro hne hu
    simp only [AllCells] at hu
    simp only [pick, List.take_succ_cons, List.take_zero, List.drop_succ_cons, List.drop_zero, List.cons_append, List.nil_append]
    repeat (go_big_quiet_step (fail))
    refine wpQuiet_nil ?_
    clear hne hu
    refine ⟨by kernel_rfl, ?_⟩
    clear HC1
    go_wp2_with fail
    go_ret
    exact ⟨false, rfl, ⟨(fun h => by cases h), fun h => absurd (HR.out.2 (HI.out.2 h).1) (by simp)⟩, HB1.out⟩
  · go_wp2_with fail
    refine And.intro (fun _ => HC1) ?_
    refine anyN_oneL 3 (by kernel_rfl) ?_
    simp only [List.take_succ_cons, List.take_zero, List.drop_succ_cons, List.drop_zero]
    go_wp2_with fail
    refine And.intro (fun _ => HC1) ?_
    refine anyN_more [4, 5, 6] 4 (by kernel_rfl) (by kernel_rfl) (by kernel_rfl) (by kernel_rfl) (fun _ _ _ _ _ h => h) HC1 ?_
    intro hne hu
    simp only [AllCells] at hu
    simp only [pick, List.take_succ_cons, List.take_zero, List.drop_succ_cons, List.drop_zero, List.cons_append, List.nil_append]
    repeat (go_big_quiet_step (fail))
    refine wpQuiet_nil ?_
    clear hne hu
    refine anyN_oneL 7 (by kernel_rfl) ?_
    simp only [List.take_succ_cons, List.take_zero, List.drop_succ_cons, List.drop_zero]
    go_wp2_with fail
    refine (vof_c m ex _).mono ?_
    rintro e w2 ⟨rfl, B2⟩
    have HC2 := AllCells.below HC1 B2
    have HB2 := Lib.hid (HB1.out.trans (B2.mono HB1.out.size))
    clear B2 HC1 HB1
    go_wp2_with fail
    refine And.intro (fun _ => HC2) ?_
    refine anyN_more [8, 9, 10] 0 (by kernel_rfl) (by kernel_rfl) (by kernel_rfl) (by kernel_rfl) (fun _ _ _ _ _ h => h) HC2 ?_
    intro hne hu
    simp only [AllCells] at hu
    simp only [pick, List.take_succ_cons, List.take_zero, List.drop_succ_cons, List.drop_zero, List.cons_append, List.nil_append]
    repeat (go_big_quiet_step (fail))
    refine wpQuiet_nil ?_
    clear hne hu
    refine ⟨by kernel_rfl, ?_⟩
    clear HC2
    go_wp2_with fail
    go_ret
    exact ⟨_, rfl, ⟨fun h => HI.out.1 ⟨HR.out.1 (by first | trivial | rfl), h⟩, fun h => (HI.out.2 h).2⟩, HB2.out⟩
theorem vright_c (x : Val) (h1 : -9223372036854775808 ≤ x.mant) (h2 : x.mant ≤ 9223372036854775807) (h3 : -9223372036854775808 ≤ x.exp) (h4 : x.exp ≤ 9223372036854775807) (w : World) : Calls Tryz.prog 126 #[.agg x.cs.toArray] w (RgV w x) := by
  obtain ⟨k, m, ex, t, b, f⟩ := x
  by_cases k0 : k = 0
  · subst k0; exact vright_k0 w m ex t b f
  by_cases k1 : k = 1
  · subst k1; exact vright_k1 w m ex t b f h1 h2 h3 h4
  by_cases k2 : k = 2
  · subst k2
    by_cases ht : t.size ≤ 255
    · exact vright_k2 w m ex t b f ht
    · exact vright_k2g w m ex t b f ht
  by_cases k3 : k = 3
  · subst k3; exact vright_k3 w m ex t b f
  by_cases k4 : k = 4
  · subst k4
    by_cases hf : 1 ≤ f ∧ f ≤ 9
    · exact vright_k4 w m ex t b f hf
    · exact vright_k4g w m ex t b f hf
  exact vright_kk w m ex t b f k k0 k1 k2 k3 k4
end Go.Proofs.YtdmbppgogdkpdaaGreatDoor
namespace Go.Proofs.YtdmbppgogdkpdaaGreatDoor
open Go.RowKit
theorem tnil {t : ByteArray} : t = ⟨#[]⟩ ↔ t.toList = [] := by
  constructor
  · rintro rfl; rw [ByteArray.toList_eq]
  · intro h
    obtain ⟨d⟩ := t
    rw [ByteArray.toList_eq] at h
    congr 1
    exact Array.toList_eq_nil_iff.1 h
theorem rightV0 {m e : Int} {t : ByteArray} {b : Bool} {f : Int} : RightV ⟨0, m, e, t, b, f⟩ ↔ m = 0 ∧ e = 0 ∧ t.toList = [] ∧ b = false ∧ f = 0 := by
  rw [← rightV_kind0, veq_true, Val.mk.injEq, ← tnil]; simp
theorem rightV1 {m e : Int} {t : ByteArray} {b : Bool} {f : Int} : RightV ⟨1, m, e, t, b, f⟩ ↔ RightN m e ∧ t.toList = [] ∧ b = false ∧ f = 0 := by
  rw [← rightV_kind1, veq_true, Val.mk.injEq, ← tnil]; simp
theorem rightV2 {m e : Int} {t : ByteArray} {b : Bool} {f : Int} : RightV ⟨2, m, e, t, b, f⟩ ↔ m = 0 ∧ e = 0 ∧ t.size ≤ 255 ∧ b = false ∧ f = 0 := by
  rw [← rightV_kind2, veq_true]
  split
  · rename_i h; rw [Val.mk.injEq]; simp [h]
  · rename_i h; rw [badV_in (by omega), Val.mk.injEq]; simp [h]
theorem rightV3 {m e : Int} {t : ByteArray} {b : Bool} {f : Int} : RightV ⟨3, m, e, t, b, f⟩ ↔ m = 0 ∧ e = 0 ∧ t.toList = [] ∧ f = 0 := by
  rw [← rightV_kind3, veq_true, Val.mk.injEq, ← tnil]; simp
theorem rightV4 {m e : Int} {t : ByteArray} {b : Bool} {f : Int} : RightV ⟨4, m, e, t, b, f⟩ ↔ m = 0 ∧ e = 0 ∧ t.toList = [] ∧ b = false ∧ 1 ≤ f ∧ f ≤ 9 := by
  rw [← rightV_kind4, veq_true]
  by_cases h : 1 ≤ f ∧ f ≤ 9
  · rw [badV_in h, Val.mk.injEq, ← tnil]; simp [h]
  · rw [badV_out h, Val.mk.injEq]
    simp only [h, and_false, iff_false, not_and]
    intro _ _ _ _ _ hf
    subst hf
    exact h (by omega)
set_option maxRecDepth 100000 in
set_option maxHeartbeats 4000000 in
theorem rright_k0 (w : World) (m ex : Int) (t : ByteArray) (b : Bool) (f : Int) :
    Calls Tryz.prog 36 #[.agg #[.int .i64 0, .int .i64 m, .int .i64 ex, .string t, .bool b, .int .i64 f]] w (RgV w ⟨0, m, ex, t, b, f⟩) := by
  go_enter Tryz.func36, Tryz.ntmps36
  go_wp2_with fail
  all_goals go_ret
  all_goals refine ⟨_, rfl, ?_, (Below.refl _ w).alloc (Nat.le_refl _) _⟩
  all_goals rw [rightV0]
  all_goals (first | (simp [*]; done) | (simp_all; done) | (simp_all; omega))
set_option maxRecDepth 100000 in
set_option maxHeartbeats 4000000 in
theorem rright_k2 (w : World) (m ex : Int) (t : ByteArray) (b : Bool) (f : Int) :
    Calls Tryz.prog 36 #[.agg #[.int .i64 2, .int .i64 m, .int .i64 ex, .string t, .bool b, .int .i64 f]] w (RgV w ⟨2, m, ex, t, b, f⟩) := by
  go_enter Tryz.func36, Tryz.ntmps36
  go_wp2_with fail
  all_goals go_ret
  all_goals refine ⟨_, rfl, ?_, (Below.refl _ w).alloc (Nat.le_refl _) _⟩
  all_goals rw [rightV2]
  all_goals (first | (simp [*]; done) | (simp_all; done) | (simp_all; omega))
set_option maxRecDepth 100000 in
set_option maxHeartbeats 4000000 in
theorem rright_k3 (w : World) (m ex : Int) (t : ByteArray) (b : Bool) (f : Int) :
    Calls Tryz.prog 36 #[.agg #[.int .i64 3, .int .i64 m, .int .i64 ex, .string t, .bool b, .int .i64 f]] w (RgV w ⟨3, m, ex, t, b, f⟩) := by
  go_enter Tryz.func36, Tryz.ntmps36
  go_wp2_with fail
  all_goals go_ret
  all_goals refine ⟨_, rfl, ?_, (Below.refl _ w).alloc (Nat.le_refl _) _⟩
  all_goals rw [rightV3]
  all_goals (first | (simp [*]; done) | (simp_all; done) | (simp_all; omega))
set_option maxRecDepth 100000 in
set_option maxHeartbeats 4000000 in
theorem rright_k4 (w : World) (m ex : Int) (t : ByteArray) (b : Bool) (f : Int) :
    Calls Tryz.prog 36 #[.agg #[.int .i64 4, .int .i64 m, .int .i64 ex, .string t, .bool b, .int .i64 f]] w (RgV w ⟨4, m, ex, t, b, f⟩) := by
  go_enter Tryz.func36, Tryz.ntmps36
  go_wp2_with fail
  all_goals go_ret
  all_goals refine ⟨_, rfl, ?_, (Below.refl _ w).alloc (Nat.le_refl _) _⟩
  all_goals rw [rightV4]
  all_goals (first | (simp [*]; done) | (simp_all; done) | (simp_all; omega))
set_option maxRecDepth 100000 in
set_option maxHeartbeats 4000000 in
theorem rright_kk (w : World) (m ex : Int) (t : ByteArray) (b : Bool) (f : Int) (k : Int) (k0 : ¬k = 0) (k1 : ¬k = 1) (k2 : ¬k = 2) (k3 : ¬k = 3) (k4 : ¬k = 4) :
    Calls Tryz.prog 36 #[.agg #[.int .i64 k, .int .i64 m, .int .i64 ex, .string t, .bool b, .int .i64 f]] w (RgV w ⟨k, m, ex, t, b, f⟩) := by
  have HI := Lib.hid (rightV_other (m := m) (e := ex) (t := t) (b := b) (f := f) k0 k1 k2 k3 k4)
  go_enter Tryz.func36, Tryz.ntmps36
  go_wp2_with fail
  all_goals go_ret
  all_goals exact ⟨false, by first | rfl | simp_all, ⟨(fun h => by cases h), fun h => absurd h HI.out⟩, (Below.refl _ w).alloc (Nat.le_refl _) _⟩
set_option maxRecDepth 100000 in
set_option maxHeartbeats 4000000 in
theorem rright_k1 (w : World) (m ex : Int) (t : ByteArray) (b : Bool) (f : Int) (h1 : -9223372036854775808 ≤ m) (h2 : m ≤ 9223372036854775807) (h3 : -9223372036854775808 ≤ ex) (h4 : ex ≤ 9223372036854775807) :
    Calls Tryz.prog 36 #[.agg #[.int .i64 1, .int .i64 m, .int .i64 ex, .string t, .bool b, .int .i64 f]] w (RgV w ⟨1, m, ex, t, b, f⟩) := by
  have HR := Lib.hid (show ∀ m' ex' : Int, m' = m → ex' = ex → ∀ w', Calls Tryz.prog 60 #[.agg #[.int .i64 m', .int .i64 ex']] w' (RgtP w' m ex) from fun m' ex' e1 e2 w' => by subst e1; subst e2; exact rright_c _ _ h1 h2 h3 h4 w')
  clear h1 h2 h3 h4
  go_enter Tryz.func36, Tryz.ntmps36
  go_wp2_with fail
  all_goals first
    | (go_ret
       refine ⟨false, rfl, ?_, (Below.refl _ w).alloc (Nat.le_refl _) _⟩
       rw [rightV1]
       first | (simp [*]; done) | (simp_all; done))
    | (refine Calls.mono (HR.out _ _ (by omega) (by omega) _) ?_
       rintro e w1 ⟨b1, rfl, r1, B1⟩
       have HB1 := Lib.hid (show Below w.heap.size w w1 from ((Below.refl _ w).alloc (Nat.le_refl _) _).trans (B1.mono (by simp)))
       have HR1 := Lib.hid r1
       clear r1 B1
       go_wp2_with fail
       go_ret
       refine ⟨b1, rfl, ?_, HB1.out⟩
       rw [rightV1, HR1.out]
       first | (simp [*]; done) | (simp_all; done))
theorem rrightV_c (x : Val) (h1 : -9223372036854775808 ≤ x.mant) (h2 : x.mant ≤ 9223372036854775807) (h3 : -9223372036854775808 ≤ x.exp) (h4 : x.exp ≤ 9223372036854775807) (w : World) : Calls Tryz.prog 36 #[.agg x.cs.toArray] w (RgV w x) := by
  obtain ⟨k, m, ex, t, b, f⟩ := x
  by_cases k0 : k = 0
  · subst k0; exact rright_k0 w m ex t b f
  by_cases k1 : k = 1
  · subst k1; exact rright_k1 w m ex t b f h1 h2 h3 h4
  by_cases k2 : k = 2
  · subst k2; exact rright_k2 w m ex t b f
  by_cases k3 : k = 3
  · subst k3; exact rright_k3 w m ex t b f
  by_cases k4 : k = 4
  · subst k4; exact rright_k4 w m ex t b f
  exact rright_kk w m ex t b f k k0 k1 k2 k3 k4
end Go.Proofs.YtdmbppgogdkpdaaGreatDoor
