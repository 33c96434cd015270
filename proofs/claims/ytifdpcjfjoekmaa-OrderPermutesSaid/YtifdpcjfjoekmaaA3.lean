/-
  Package num: Right, Cmp: their contracts. Condition: the numbers are right.
-/
import Derived.Test.YtifdpcjfjoekmaaA2
namespace Go.Proofs.Ytifdpcjfjoekmaa
open Go.RowKit

set_option maxRecDepth 100000 in
set_option maxHeartbeats 4000000 in
theorem right_c (m e : Int) (h : RightN m e) (w : World) :
    Calls Try.prog 45 #[.agg #[.int .i64 m, .int .i64 e]] w fun x w' => x = .returned (.bool true) ∧ ∃ n, w' = (w.alloc (.cells #[.int .i64 m, .int .i64 e] 40)).drewN n := by
  by_cases h0 : m = 0
  · have e0 := h.zero h0
    subst h0
    subst e0
    clear h
    go_enter Try.func45, Try.ntmps45
    go_wp2
    go_ret
    exact ⟨rfl, 0, rfl⟩
  · have b1 := h.lo
    have b2 := h.hi
    have hb1 : (m == 0) = false := by simpa using h0
    have xl : m.natAbs < 1000000000000000 := by omega
    have hx : decide ((1000000000000000 : Int) ≤ (m.natAbs : Int)) = false := by rw [decide_eq_false_iff_not]; omega
    have hm := h.mod h0
    have hmod : (((m.natAbs : Int) % 10) == 0) = false := by rw [beq_eq_false_iff_ne]; omega
    have he1 : decide (e < -40) = false := by rw [decide_eq_false_iff_not]; have := h.elo; omega
    have nx := ndig_le m.natAbs
    have ht := h.top h0
    have he2 : decide (40 ≤ e) = false := by rw [decide_eq_false_iff_not]; omega
    have he3 : (-40 : Int) ≤ e := h.elo
    have he4 : e ≤ 40 := by omega
    clear h hm
    go_enter Try.func45, Try.ntmps45
    go_wp2_with (go_at_call 51; refine (size_c _ (by omega) (by omega) _).mono ?_; rintro e w' ⟨rfl, rfl⟩)
    have hle : decide ((ndig m.natAbs : Int) + e ≤ 40) = true := decide_eq_true ht
    go_quiet ((go_at_call 52; exact Calls.quiet_ws (count_c _ (by omega) _)))
    go_wp2
    go_ret
    exact ⟨rfl, _, rfl⟩

theorem keyN_pos {m e : Int} (h : 0 < m) : 0 < keyN m e := Int.mul_pos h (by have := pw_pos (e + 40).toNat; omega)
theorem keyN_neg {m e : Int} (h : m < 0) : keyN m e < 0 := Int.mul_neg_of_neg_of_pos h (by have := pw_pos (e + 40).toNat; omega)
theorem keyN_zero {e : Int} : keyN 0 e = 0 := by simp [keyN]
theorem keyN_abs {m e : Int} (h : 0 ≤ m) : keyN m e = (keyA m e : Int) := by
  unfold keyN keyA
  rw [Int.natCast_mul, Int.natAbs_of_nonneg h]
theorem keyN_abs' {m e : Int} (h : m ≤ 0) : keyN m e = -(keyA m e : Int) := by
  unfold keyN keyA
  rw [Int.natCast_mul, Int.ofNat_natAbs_of_nonpos h, Int.neg_mul, Int.neg_neg]
theorem cmp3_neg (a b : Int) : cmp3 (-a) (-b) = -cmp3 a b := by
  unfold cmp3
  split <;> split <;> first | omega | (split <;> omega)
theorem cmp_sign (m e m2 e2 : Int) (h : cmp3 m 0 ≠ cmp3 m2 0) : cmp3 (keyN m e) (keyN m2 e2) = if cmp3 m 0 < cmp3 m2 0 then -1 else 1 := by
  rcases Int.lt_trichotomy m 0 with a | a | a <;> rcases Int.lt_trichotomy m2 0 with b | b | b
  all_goals (try subst a); (try subst b)
  all_goals first
    | (exfalso; apply h; first | rw [cmp3_lt a, cmp3_lt b] | rfl | rw [cmp3_gt a, cmp3_gt b])
    | skip
  · rw [cmp3_lt a, cmp3_eq rfl]; have := keyN_neg (e := e) a; rw [keyN_zero, cmp3_lt this]; rfl
  · rw [cmp3_lt a, cmp3_gt b]; have := keyN_neg (e := e) a; have := keyN_pos (e := e2) b; rw [cmp3_lt (by omega)]; rfl
  · rw [cmp3_eq rfl, cmp3_lt b]; have := keyN_neg (e := e2) b; rw [keyN_zero, cmp3_gt this]; rfl
  · rw [cmp3_eq rfl, cmp3_gt b]; have := keyN_pos (e := e2) b; rw [keyN_zero, cmp3_lt this]; rfl
  · rw [cmp3_gt a, cmp3_lt b]; have := keyN_pos (e := e) a; have := keyN_neg (e := e2) b; rw [cmp3_gt (by omega)]; rfl
  · rw [cmp3_gt a, cmp3_eq rfl]; have := keyN_pos (e := e) a; rw [keyN_zero, cmp3_gt this]; rfl
theorem cmp_same (m e m2 e2 : Int) (h : cmp3 m 0 = cmp3 m2 0) : cmp3 (keyN m e) (keyN m2 e2) = cmp3 m 0 * cmp3 (keyA m e) (keyA m2 e2) ∧ (m = 0 ↔ m2 = 0) := by
  rcases Int.lt_trichotomy m 0 with a | a | a <;> rcases Int.lt_trichotomy m2 0 with b | b | b
  · refine ⟨?_, by omega⟩
    rw [cmp3_lt a, keyN_abs' (by omega), keyN_abs' (by omega), cmp3_neg]; omega
  · rw [cmp3_lt a, cmp3_eq b] at h; cases h
  · rw [cmp3_lt a, cmp3_gt b] at h; cases h
  · rw [cmp3_eq a, cmp3_lt b] at h; cases h
  · subst a; subst b
    exact ⟨by rw [keyN_zero, keyN_zero, cmp3_eq rfl, Int.zero_mul], by simp⟩
  · rw [cmp3_eq a, cmp3_gt b] at h; cases h
  · rw [cmp3_gt a, cmp3_lt b] at h; cases h
  · rw [cmp3_gt a, cmp3_eq b] at h; cases h
  · refine ⟨?_, by omega⟩
    rw [cmp3_gt a, keyN_abs (by omega), keyN_abs (by omega), Int.one_mul]
theorem cmp3_range (a b : Int) : cmp3 a b = -1 ∨ cmp3 a b = 0 ∨ cmp3 a b = 1 := by
  unfold cmp3; split <;> (try split) <;> simp
theorem below_of_drewN {w w' : World} (h : ∃ n, w' = w.drewN n) : Below w.heap.size w w' := by
  obtain ⟨n, rfl⟩ := h
  exact ⟨rfl, rfl, rfl, Nat.le_refl _, fun _ _ => rfl⟩

set_option maxRecDepth 100000 in
set_option maxHeartbeats 4000000 in
theorem ncmp_c (m e m2 e2 : Int) (h1 : RightN m e) (h2 : RightN m2 e2) (w : World) :
    Calls Try.prog 38 #[.agg #[.int .i64 m, .int .i64 e], .agg #[.int .i64 m2, .int .i64 e2]] w fun x w' => x = .returned (.int .i64 (cmp3 (keyN m e) (keyN m2 e2))) ∧ Below w.heap.size w w' := by
  have H1 := Lib.hid h1
  have H2 := Lib.hid h2
  clear h1 h2
  have bV : Below w.heap.size w ((w.alloc (.cells #[.int .i64 m, .int .i64 e] 40)).alloc (.cells #[.int .i64 m2, .int .i64 e2] 40)) := ((Below.refl _ w).alloc (Nat.le_refl _) _).alloc (by simp) _
  have HB := Lib.hid bV
  have bX := Lib.hid ((Blk.new w 40 #[.int .i64 m, .int .i64 e]).alloc (.cells #[.int .i64 m2, .int .i64 e2] 40))
  have bY : Hid (Blk ((w.alloc (.cells #[.int .i64 m, .int .i64 e] 40)).alloc (.cells #[.int .i64 m2, .int .i64 e2] 40)) (w.heap.size + 1) 40 #[.int .i64 m2, .int .i64 e2]) := by
    have := Blk.new (w.alloc (.cells #[.int .i64 m, .int .i64 e] 40)) 40 #[.int .i64 m2, .int .i64 e2]
    rw [World.size_alloc] at this; exact this
  clear bV
  go_enter Try.func38, Try.ntmps38
  go_wp2_with fail
  generalize (w.alloc (.cells #[.int .i64 m, .int .i64 e] 40)).alloc (.cells #[.int .i64 m2, .int .i64 e2] 40) = V at *
  refine (right_c m e H1.out V).mono ?_
  rintro x w1 ⟨rfl, n1, rfl⟩
  have b1 : Below V.heap.size V ((V.alloc (.cells #[.int .i64 m, .int .i64 e] 40)).drewN n1) := below_drewN ((Below.refl _ V).alloc (Nat.le_refl _) _) n1
  generalize (V.alloc (.cells #[.int .i64 m, .int .i64 e] 40)).drewN n1 = W1 at *
  have bX1 := Lib.hid (bX.out.kept (b1.block _ bX.out.lt))
  have bY1 := Lib.hid (bY.out.kept (b1.block _ bY.out.lt))
  have HB1 := Lib.hid (HB.out.trans (b1.mono HB.out.size))
  have cy0 := bY1.out.cell 0
  have cy1 := bY1.out.cell 1
  simp only [List.getElem?_toArray, List.getElem?_cons_zero, List.getElem?_cons_succ] at cy0 cy1
  clear b1 bX bY HB
  go_wp2_with fail
  refine (right_c m2 e2 H2.out W1).mono ?_
  rintro x w2 ⟨rfl, n2, rfl⟩
  have b2 : Below W1.heap.size W1 ((W1.alloc (.cells #[.int .i64 m2, .int .i64 e2] 40)).drewN n2) := below_drewN ((Below.refl _ W1).alloc (Nat.le_refl _) _) n2
  generalize (W1.alloc (.cells #[.int .i64 m2, .int .i64 e2] 40)).drewN n2 = W2 at *
  have bX2 := Lib.hid (bX1.out.kept (b2.block _ bX1.out.lt))
  have bY2 := Lib.hid (bY1.out.kept (b2.block _ bY1.out.lt))
  have HB2 := Lib.hid (HB1.out.trans (b2.mono HB1.out.size))
  clear b2 bX1 bY1 HB1 cy0 cy1
  go_wp2_with fail
  have HC : AllCells W2.drew [(⟨w.heap.size, 0, none⟩, .int .i64 m), (⟨w.heap.size, 1, none⟩, .int .i64 e), (⟨w.heap.size + 1, 0, none⟩, .int .i64 m2), (⟨w.heap.size + 1, 1, none⟩, .int .i64 e2)] := ⟨bX2.out.cell 0, bX2.out.cell 1, bY2.out.cell 0, bY2.out.cell 1, trivial⟩
  refine region_free _ [0, 2] 4 (by kernel_rfl) (by kernel_rfl) (by kernel_rfl) (by kernel_rfl) (by kernel_rfl) (fun _ _ _ _ _ h => h) HC ?_
  intro hne hu
  simp only [AllCells] at hu
  simp only [pick, List.take_succ_cons, List.take_zero, List.drop_succ_cons, List.drop_zero, List.cons_append, List.nil_append]
  repeat (go_big_quiet_step (fail))
  refine wpQuiet_nil ?_
  clear hne hu
  refine anyN_oneL 1 (by kernel_rfl) ?_
  simp only [List.take_succ_cons, List.take_zero, List.drop_succ_cons, List.drop_zero]
  go_wp2_with fail
  refine (sign_c m e _).mono ?_
  rintro x w3 ⟨rfl, rfl⟩
  have b3 : Below W2.heap.size W2 (W2.drew.alloc (.cells #[.int .i64 m, .int .i64 e] 40)) := ((Below.refl _ W2).drew).alloc (Nat.le_refl _) _
  generalize W2.drew.alloc (.cells #[.int .i64 m, .int .i64 e] 40) = W3 at *
  have bX3 := Lib.hid (bX2.out.kept (b3.block _ bX2.out.lt))
  have bY3 := Lib.hid (bY2.out.kept (b3.block _ bY2.out.lt))
  have HB3 := Lib.hid (HB2.out.trans (b3.mono HB2.out.size))
  clear b3 bX2 bY2 HB2 HC
  have HC : AllCells W3 [(⟨w.heap.size, 0, none⟩, .int .i64 m), (⟨w.heap.size, 1, none⟩, .int .i64 e), (⟨w.heap.size + 1, 0, none⟩, .int .i64 m2), (⟨w.heap.size + 1, 1, none⟩, .int .i64 e2)] := ⟨bX3.out.cell 0, bX3.out.cell 1, bY3.out.cell 0, bY3.out.cell 1, trivial⟩
  go_wp2_with fail
  refine And.intro (fun _ => HC) ?_
  refine anyN_oneL 3 (by kernel_rfl) ?_
  simp only [List.take_succ_cons, List.take_zero, List.drop_succ_cons, List.drop_zero]
  go_wp2_with fail
  refine (sign_c m2 e2 _).mono ?_
  rintro x w4 ⟨rfl, rfl⟩
  have b4 : Below W3.heap.size W3 (W3.alloc (.cells #[.int .i64 m2, .int .i64 e2] 40)) := (Below.refl _ W3).alloc (Nat.le_refl _) _
  generalize W3.alloc (.cells #[.int .i64 m2, .int .i64 e2] 40) = W4 at *
  have bX4 := Lib.hid (bX3.out.kept (b4.block _ bX3.out.lt))
  have bY4 := Lib.hid (bY3.out.kept (b4.block _ bY3.out.lt))
  have HB4 := Lib.hid (HB3.out.trans (b4.mono HB3.out.size))
  clear b4 bX3 bY3 HB3 HC
  have HC : AllCells W4 [(⟨w.heap.size, 0, none⟩, .int .i64 m), (⟨w.heap.size, 1, none⟩, .int .i64 e), (⟨w.heap.size + 1, 0, none⟩, .int .i64 m2), (⟨w.heap.size + 1, 1, none⟩, .int .i64 e2)] := ⟨bX4.out.cell 0, bX4.out.cell 1, bY4.out.cell 0, bY4.out.cell 1, trivial⟩
  go_wp2_with fail
  refine And.intro (fun _ => HC) ?_
  refine anyN_more [4, 5] 0 (by kernel_rfl) (by kernel_rfl) (by kernel_rfl) (by kernel_rfl) (fun _ _ _ _ _ h => h) HC ?_
  intro hne hu
  simp only [AllCells] at hu
  simp only [pick, List.take_succ_cons, List.take_zero, List.drop_succ_cons, List.drop_zero, List.cons_append, List.nil_append]
  repeat (go_big_quiet_step (fail))
  refine wpQuiet_nil ?_
  clear hne hu
  refine ⟨by kernel_rfl, ?_⟩
  clear HC
  by_cases hs : cmp3 m 0 = cmp3 m2 0
  · have hk := Lib.hid (cmp_same m e m2 e2 hs)
    have cz := Lib.hid (cmpSize_c m e m2 e2 H1.out H2.out hk.out.2)
    have hne : (cmp3 m 0 != cmp3 m2 0) = false := by simpa using hs
    have r1 : -1 ≤ cmp3 m 0 ∧ cmp3 m 0 ≤ 1 := by have := cmp3_range m 0; omega
    clear hs
    go_wp2_with fail
    have HC : AllCells W4.drew [(⟨w.heap.size, 0, none⟩, .int .i64 m), (⟨w.heap.size, 1, none⟩, .int .i64 e), (⟨w.heap.size + 1, 0, none⟩, .int .i64 m2), (⟨w.heap.size + 1, 1, none⟩, .int .i64 e2)] := ⟨bX4.out.cell 0, bX4.out.cell 1, bY4.out.cell 0, bY4.out.cell 1, trivial⟩
    refine region_free _ [0, 2, 3] 4 (by kernel_rfl) (by kernel_rfl) (by kernel_rfl) (by kernel_rfl) (by kernel_rfl) (fun _ _ _ _ _ h => h) HC ?_
    intro hne hu
    simp only [AllCells] at hu
    simp only [pick, List.take_succ_cons, List.take_zero, List.drop_succ_cons, List.drop_zero, List.cons_append, List.nil_append]
    repeat (go_big_quiet_step (fail))
    refine wpQuiet_nil ?_
    clear hne hu
    refine anyN_oneL 1 (by kernel_rfl) ?_
    simp only [List.take_succ_cons, List.take_zero, List.drop_succ_cons, List.drop_zero]
    go_wp2_with fail
    refine (sign_c m e _).mono ?_
    rintro x w5 ⟨rfl, rfl⟩
    have b5 : Below W4.heap.size W4 (W4.drew.alloc (.cells #[.int .i64 m, .int .i64 e] 40)) := ((Below.refl _ W4).drew).alloc (Nat.le_refl _) _
    have hb5 : Below W4.drew.heap.size W4.drew (W4.drew.alloc (.cells #[.int .i64 m, .int .i64 e] 40)) := (Below.refl _ W4.drew).alloc (Nat.le_refl _) _
    generalize W4.drew.alloc (.cells #[.int .i64 m, .int .i64 e] 40) = W5 at *
    have HB5 := Lib.hid (HB4.out.trans (b5.mono HB4.out.size))
    have HC5 := AllCells.below HC (show Below W4.drew.heap.size W4.drew W5 from hb5)
    clear hb5 bX4 bY4 HB4 HC b5
    go_wp2_with fail
    refine And.intro (fun _ => HC5) ?_
    refine anyN_oneL 4 (by kernel_rfl) ?_
    simp only [List.take_succ_cons, List.take_zero, List.drop_succ_cons, List.drop_zero]
    go_wp2_with fail
    refine (cz.out _).mono ?_
    rintro x w6 ⟨rfl, b6⟩
    have HB6 := Lib.hid (HB5.out.trans (b6.mono HB5.out.size))
    have HC6 := AllCells.below HC5 b6
    have hw : IntKind.i64.wrap (cmp3 m 0 * cmp3 (keyA m e) (keyA m2 e2)) = cmp3 (keyN m e) (keyN m2 e2) := by
      rw [← hk.out.1]
      exact IntWalk.i64_in _ (by have := cmp3_range (keyN m e) (keyN m2 e2); omega)
    clear b6 HC5 HB5 r1
    go_wp2_with fail
    refine And.intro (fun _ => HC6) ?_
    refine anyN_more [5, 6] 0 (by kernel_rfl) (by kernel_rfl) (by kernel_rfl) (by kernel_rfl) (fun _ _ _ _ _ h => h) HC6 ?_
    intro hne hu
    simp only [AllCells] at hu
    simp only [pick, List.take_succ_cons, List.take_zero, List.drop_succ_cons, List.drop_zero, List.cons_append, List.nil_append]
    repeat (go_big_quiet_step (fail))
    refine wpQuiet_nil ?_
    clear hne hu
    refine ⟨by kernel_rfl, ?_⟩
    clear HC6
    go_wp2
    go_ret
    exact ⟨rfl, HB6.out⟩
  · have hk := Lib.hid (cmp_sign m e m2 e2 hs)
    have hne : (cmp3 m 0 != cmp3 m2 0) = true := by simpa using hs
    clear hs
    by_cases hlt : cmp3 m 0 < cmp3 m2 0
    · have hk2 : Hid (cmp3 (keyN m e) (keyN m2 e2) = -1) := by have := hk.out; rw [if_pos hlt] at this; exact this
      clear hk
      go_wp2
      go_ret
      exact ⟨ret_i64 hk2.out.symm, HB4.out⟩
    · have hk2 : Hid (cmp3 (keyN m e) (keyN m2 e2) = 1) := by have := hk.out; rw [if_neg hlt] at this; exact this
      clear hk
      go_wp2
      go_ret
      exact ⟨ret_i64 hk2.out.symm, HB4.out⟩
end Go.Proofs.Ytifdpcjfjoekmaa
