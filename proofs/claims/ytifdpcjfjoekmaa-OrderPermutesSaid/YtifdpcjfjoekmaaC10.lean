/-
  counterpaneref02: Compare, Order: their contracts. Condition: the values may be.
-/
import Derived.Test.YtifdpcjfjoekmaaC9
namespace Go.Proofs.Ytifdpcjfjoekmaa
open Go.RowKit

theorem sg_cmp (a b : Int) : sg (decide (a < b)) (decide (b < a)) = cmp3 a b := by
  unfold sg cmp3
  simp only [decide_eq_true_eq]
theorem sg_kind {a b : Int} (h : a ≠ b) : sg (decide (a < b)) true = cmp3 a b := by
  unfold sg cmp3
  simp only [decide_eq_true_eq, if_true]
  split
  · rfl
  · rw [if_pos (by omega)]
@[go_sem] theorem binOp_string_gtr (t : TypeId) (a b : ByteArray) : binOp .gtr t (.string a) (.string b) = pure (.bool !(Op.bytesLess a.toList b.toList || a.toList == b.toList)) := by simp [binOp, Op.stringOp]
theorem sg_bytes : ∀ (a b : List UInt8), sg (Op.bytesLess a b) (!(Op.bytesLess a b || a == b)) = Lib.compareBytes a b
  | [], [] => by simp [sg, Op.bytesLess, Lib.compareBytes]
  | [], _ :: _ => by simp [sg, Op.bytesLess, Lib.compareBytes]
  | _ :: _, [] => by simp [sg, Op.bytesLess, Lib.compareBytes]
  | a :: x, b :: y => by
    have ih := sg_bytes x y
    unfold Op.bytesLess Lib.compareBytes
    by_cases h1 : a < b
    · rw [if_pos h1]
      simp [sg, h1]
    · rw [if_neg h1]
      by_cases h2 : b < a
      · rw [if_pos h2]
        have hne : ¬ a = b := fun e => by rw [e] at h2; exact h1 (by rw [e]; exact h2)
        simp [sg, h1, hne]
      · rw [if_neg h2]
        have he : a = b := UInt8.le_antisymm (UInt8.not_lt.1 h2) (UInt8.not_lt.1 h1)
        subst he
        rw [← ih]
        simp
theorem sg_fold (s t : ByteArray) : sg (Op.bytesLess (foldB s).toList (foldB t).toList) (!(Op.bytesLess (foldB s).toList (foldB t).toList || (foldB s).toList == (foldB t).toList)) = Lib.compareBytes (foldB s).data.toList (foldB t).data.toList := by
  rw [Lib.toList_data, Lib.toList_data]
  exact sg_bytes _ _
theorem sg_truth (a b : Bool) : sg (!a && b) (a && !b) = truthR a b := by cases a <;> cases b <;> rfl
set_option maxRecDepth 100000 in
set_option maxHeartbeats 1000000 in
theorem rcompare_c (x y : Val) (hx : Okay x) (hy : Okay y) (hxk : 1 ≤ x.kind ∧ x.kind ≤ 4) (hyk : 1 ≤ y.kind ∧ y.kind ≤ 4) (w : World) :
    Calls Try.prog 21 #[.agg x.cs.toArray, .agg y.cs.toArray] w fun e w' => e = .returned (.int .i64 (valCmp x y)) ∧ Below w.heap.size w w' := by
  obtain ⟨k, m, ex, t, b, f⟩ := x
  obtain ⟨k2, m2, ex2, t2, b2, f2⟩ := y
  unfold Val.cs
  dsimp only at hxk hyk ⊢
  have HX := Lib.hid hx
  have HY := Lib.hid hy
  have bV : Below w.heap.size w ((w.alloc (.cells #[.int .i64 k, .int .i64 m, .int .i64 ex, .string t, .bool b, .int .i64 f] 42)).alloc (.cells #[.int .i64 k2, .int .i64 m2, .int .i64 ex2, .string t2, .bool b2, .int .i64 f2] 42)) := ((Below.refl _ w).alloc (Nat.le_refl _) _).alloc (by simp) _
  have HB2 := Lib.hid bV
  have bX2 := Lib.hid ((Blk.new w 42 #[.int .i64 k, .int .i64 m, .int .i64 ex, .string t, .bool b, .int .i64 f]).alloc (.cells #[.int .i64 k2, .int .i64 m2, .int .i64 ex2, .string t2, .bool b2, .int .i64 f2] 42))
  have bY2 : Hid (Blk ((w.alloc (.cells #[.int .i64 k, .int .i64 m, .int .i64 ex, .string t, .bool b, .int .i64 f] 42)).alloc (.cells #[.int .i64 k2, .int .i64 m2, .int .i64 ex2, .string t2, .bool b2, .int .i64 f2] 42)) (w.heap.size + 1) 42 #[.int .i64 k2, .int .i64 m2, .int .i64 ex2, .string t2, .bool b2, .int .i64 f2]) := by
    have := Blk.new (w.alloc (.cells #[.int .i64 k, .int .i64 m, .int .i64 ex, .string t, .bool b, .int .i64 f] 42)) 42 #[.int .i64 k2, .int .i64 m2, .int .i64 ex2, .string t2, .bool b2, .int .i64 f2]
    rw [World.size_alloc] at this; exact this
  clear bV hx hy
  have z1 : (k == 0) = false := by rw [beq_eq_false_iff_ne]; omega
  have z2 : (k2 == 0) = false := by rw [beq_eq_false_iff_ne]; omega
  have HK := Lib.hid hxk
  have HK2 := Lib.hid hyk
  clear hxk hyk
  by_cases hk : k = k2
  · subst hk
    have hkk : (k != k) = false := by simp
    have HV : Hid (valCmp ⟨k, m, ex, t, b, f⟩ ⟨k, m2, ex2, t2, b2, f2⟩ = byKind ⟨k, m, ex, t, b, f⟩ ⟨k, m2, ex2, t2, b2, f2⟩) := if_neg (by simp)
    have h4 : k = 1 ∨ k = 2 ∨ k = 3 ∨ k = 4 := by have := HK.out; omega
    clear HK HK2
    rcases h4 with rfl | rfl | rfl | rfl
    · have HN := Lib.hid (rcmp_c m ex m2 ex2 (HX.out.num rfl) (HY.out.num rfl))
      go_enter Try.func21, Try.ntmps21
      go_wp2_with fail
      refine (HN.out _).mono ?_
      rintro e w3 ⟨rfl, b3⟩
      have HB3 := Lib.hid (HB2.out.trans (b3.mono HB2.out.size))
      clear b3
      go_wp2_with fail
      go_ret
      exact ⟨ret_i64 (by rw [HV.out]; rfl), HB3.out⟩
    · have HF1 := Lib.hid (rfold_c t HX.out.text)
      have HF2 := Lib.hid (rfold_c t2 HY.out.text)
      go_enter Try.func21, Try.ntmps21
      go_wp2_with fail
      generalize (w.alloc (.cells #[.int .i64 2, .int .i64 m, .int .i64 ex, .string t, .bool b, .int .i64 f] 42)).alloc (.cells #[.int .i64 2, .int .i64 m2, .int .i64 ex2, .string t2, .bool b2, .int .i64 f2] 42) = V at *
      have HC : AllCells V.drew [(⟨w.heap.size, 3, none⟩, .string t), (⟨w.heap.size + 1, 3, none⟩, .string t2)] := ⟨bX2.out.cell 3, bY2.out.cell 3, trivial⟩
      refine region_free _ [0, 1, 3, 4] 4 (by kernel_rfl) (by kernel_rfl) (by kernel_rfl) (by kernel_rfl) (by kernel_rfl) (fun _ _ _ _ _ h => h) HC ?_
      intro hne hu
      simp only [AllCells] at hu
      simp only [pick, List.take_succ_cons, List.take_zero, List.drop_succ_cons, List.drop_zero, List.cons_append, List.nil_append]
      repeat (go_big_quiet_step (fail))
      refine wpQuiet_nil ?_
      clear hne hu
      refine anyN_oneL 2 (by kernel_rfl) ?_
      simp only [List.take_succ_cons, List.take_zero, List.drop_succ_cons, List.drop_zero]
      go_wp2_with fail
      refine (HF1.out _).mono ?_
      rintro e w3 ⟨rfl, b3⟩
      have HC3 := AllCells.below HC b3
      have HB3 := Lib.hid (HB2.out.drew.trans (b3.mono HB2.out.size))
      clear b3 HC HB2 bX2 bY2
      go_wp2_with fail
      refine And.intro (fun _ => HC3) ?_
      refine anyN_oneL 5 (by kernel_rfl) ?_
      simp only [List.take_succ_cons, List.take_zero, List.drop_succ_cons, List.drop_zero]
      go_wp2_with fail
      refine (HF2.out _).mono ?_
      rintro e w4 ⟨rfl, b4⟩
      have HC4 := AllCells.below HC3 b4
      have HB4 := Lib.hid (HB3.out.trans (b4.mono HB3.out.size))
      clear b4 HC3 HB3
      go_wp2_with fail
      refine And.intro (fun _ => HC4) ?_
      refine anyN_more [6, 7] 0 (by kernel_rfl) (by kernel_rfl) (by kernel_rfl) (by kernel_rfl) (fun _ _ _ _ _ h => h) HC4 ?_
      intro hne hu
      simp only [AllCells] at hu
      simp only [pick, List.take_succ_cons, List.take_zero, List.drop_succ_cons, List.drop_zero, List.cons_append, List.nil_append]
      repeat (go_big_quiet_step (fail))
      refine wpQuiet_nil ?_
      clear hne hu
      refine ⟨by kernel_rfl, ?_⟩
      clear HC4
      go_wp2_with fail
      refine (rsign_c _ _ _).mono ?_
      rintro e w5 ⟨rfl, rfl⟩
      go_wp2_with fail
      go_ret
      exact ⟨ret_i64 (by rw [HV.out, ← Bool.not_or]; exact sg_fold t t2), HB4.out⟩
    · go_enter Try.func21, Try.ntmps21
      cases b <;> cases b2
      all_goals
        go_wp2_with fail
        refine (rsign_c _ _ _).mono ?_
        rintro e w3 ⟨rfl, rfl⟩
        go_wp2_with fail
        go_ret
        exact ⟨ret_i64 (by rw [HV.out]; rfl), HB2.out⟩
    · go_enter Try.func21, Try.ntmps21
      go_wp2_with fail
      refine (rsign_c _ _ _).mono ?_
      rintro e w3 ⟨rfl, rfl⟩
      go_wp2_with fail
      go_ret
      exact ⟨ret_i64 (by rw [HV.out]; exact sg_cmp f f2), HB2.out⟩
  · have hkk : (k != k2) = true := by simpa using hk
    have HV : Hid (valCmp ⟨k, m, ex, t, b, f⟩ ⟨k2, m2, ex2, t2, b2, f2⟩ = cmp3 k k2) := if_pos hk
    have hc := Lib.hid (sg_kind hk)
    clear hk
    go_enter Try.func21, Try.ntmps21
    go_wp2_with fail
    refine (rsign_c _ _ _).mono ?_
    rintro e w3 ⟨rfl, rfl⟩
    go_wp2_with fail
    go_ret
    exact ⟨ret_i64 (by rw [HV.out]; exact hc.out), HB2.out⟩

set_option maxRecDepth 100000 in
set_option maxHeartbeats 1000000 in
theorem rorder_c (x y : Val) (hx : Okay x) (hy : Okay y) (hxk : 0 ≤ x.kind ∧ x.kind ≤ 4) (hyk : 0 ≤ y.kind ∧ y.kind ≤ 4) (w : World) :
    Calls Try.prog 13 #[.agg x.cs.toArray, .agg y.cs.toArray] w fun e w' => e = .returned (.int .i64 (valOrd x y)) ∧ Below w.heap.size w w' := by
  have bV : Below w.heap.size w ((w.alloc (.cells x.cs.toArray 42)).alloc (.cells y.cs.toArray 42)) := ((Below.refl _ w).alloc (Nat.le_refl _) _).alloc (by simp) _
  have HB := Lib.hid bV
  clear bV
  by_cases hx0 : x.kind = 0
  · by_cases hy0 : y.kind = 0
    · have hv : Hid (valOrd x y = 0) := if_pos ⟨hx0, hy0⟩
      unfold Val.cs at HB ⊢
      rw [hx0, hy0] at HB ⊢
      clear hx hy hxk hyk hx0 hy0
      go_enter Try.func13, Try.ntmps13
      go_wp2_with fail
      refine (rsign_c _ _ _).mono ?_
      rintro e w3 ⟨rfl, rfl⟩
      go_wp2_with fail
      go_ret
      exact ⟨ret_i64 (by rw [hv.out]; rfl), HB.out⟩
    · have hv := Lib.hid (show valOrd x y = 1 by unfold valOrd; rw [if_neg (by simp [hy0]), if_pos hx0])
      have hyb : (y.kind == 0) = false := by simpa using hy0
      have hyc : (y.kind != 0) = true := by simpa using hy0
      unfold Val.cs at HB ⊢
      rw [hx0] at HB ⊢
      clear hx hy hxk hyk hx0 hy0
      go_enter Try.func13, Try.ntmps13
      go_wp2_with fail
      refine (rsign_c _ _ _).mono ?_
      rintro e w3 ⟨rfl, rfl⟩
      go_wp2_with fail
      go_ret
      exact ⟨ret_i64 (by rw [hv.out]; rfl), HB.out⟩
  · have hxb : (x.kind == 0) = false := by simpa using hx0
    have hxc : (x.kind != 0) = true := by simpa using hx0
    by_cases hy0 : y.kind = 0
    · have hv := Lib.hid (show valOrd x y = -1 by unfold valOrd; rw [if_neg (by simp [hx0]), if_neg hx0, if_pos hy0])
      unfold Val.cs at HB ⊢
      rw [hy0] at HB ⊢
      clear hx hy hxk hyk hx0 hy0
      go_enter Try.func13, Try.ntmps13
      go_wp2_with fail
      refine (rsign_c _ _ _).mono ?_
      rintro e w3 ⟨rfl, rfl⟩
      go_wp2_with fail
      go_ret
      exact ⟨ret_i64 (by rw [hv.out]; rfl), HB.out⟩
    · have hv := Lib.hid (show valOrd x y = valCmp x y by unfold valOrd; rw [if_neg (by simp [hx0]), if_neg hx0, if_neg hy0])
      have hyb : (y.kind == 0) = false := by simpa using hy0
      have HC := Lib.hid (rcompare_c x y hx hy (by omega) (by omega))
      unfold Val.cs at HB HC ⊢
      clear hx hy hxk hyk hx0 hy0
      go_enter Try.func13, Try.ntmps13
      go_wp2_with fail
      refine (HC.out _).mono ?_
      rintro e w1 ⟨rfl, b1⟩
      have HB1 := Lib.hid (HB.out.trans (b1.mono HB.out.size))
      clear b1 HC HB
      go_wp2_with fail
      go_ret
      exact ⟨ret_i64 hv.out.symm, HB1.out⟩
end Go.Proofs.Ytifdpcjfjoekmaa
