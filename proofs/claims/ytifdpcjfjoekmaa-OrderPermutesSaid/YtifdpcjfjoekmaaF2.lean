/-
  counterpaneref30.Ahead: its contract. Condition: the rows and keys can be read.
-/
import Derived.Test.YtifdpcjfjoekmaaF1
namespace Go.Proofs.Ytifdpcjfjoekmaa
open Go.RowKit

theorem ahead_both {x y : List Val} {kc : Int} {kd : Bool} {ks : List KeyD} (ha : (atV x kc).kind = 0) (hb : (atV y kc).kind = 0) : cmpK x y (⟨kc, kd⟩ :: ks) = cmpK x y ks := by
  have e : cmp1 x y ⟨kc, kd⟩ = 0 := by unfold cmp1; rw [if_neg (fun h => h.2.1 ha), valOrd_b ha hb]
  rw [cmpK, e, if_neg (fun h => h rfl)]
theorem ahead_l {x y : List Val} {kc : Int} {kd : Bool} {ks : List KeyD} (ha : (atV x kc).kind = 0) (hb : (atV y kc).kind ≠ 0) : cmpK x y (⟨kc, kd⟩ :: ks) = 1 := by
  have e : cmp1 x y ⟨kc, kd⟩ = 1 := by unfold cmp1; rw [if_neg (fun h => h.2.1 ha), valOrd_l ha hb]
  unfold cmpK
  rw [e, if_pos (by decide)]
theorem ahead_r {x y : List Val} {kc : Int} {kd : Bool} {ks : List KeyD} (ha : (atV x kc).kind ≠ 0) (hb : (atV y kc).kind = 0) : cmpK x y (⟨kc, kd⟩ :: ks) = -1 := by
  have e : cmp1 x y ⟨kc, kd⟩ = -1 := by unfold cmp1; rw [if_neg (fun h => h.2.2 hb), valOrd_r ha hb]
  unfold cmpK
  rw [e, if_pos (by decide)]
theorem ahead_eq {x y : List Val} {kc : Int} {kd : Bool} {ks : List KeyD} (h : valOrd (atV x kc) (atV y kc) = 0) : cmpK x y (⟨kc, kd⟩ :: ks) = cmpK x y ks := by
  have e : cmp1 x y ⟨kc, kd⟩ = 0 := by unfold cmp1; rw [h]; simp
  rw [cmpK, e, if_neg (fun h => h rfl)]
theorem ahead_ne {x y : List Val} {kc : Int} {kd : Bool} {ks : List KeyD} (ha : (atV x kc).kind ≠ 0) (hb : (atV y kc).kind ≠ 0) (h : valOrd (atV x kc) (atV y kc) ≠ 0) :
    decide (cmpK x y (⟨kc, kd⟩ :: ks) < 0) = (decide (valOrd (atV x kc) (atV y kc) < 0) != kd) := by
  have e : cmp1 x y ⟨kc, kd⟩ = if kd then -valOrd (atV x kc) (atV y kc) else valOrd (atV x kc) (atV y kc) := by
    unfold cmp1
    cases kd
    · rw [if_neg (by simp)]; rfl
    · rw [if_pos ⟨rfl, ha, hb⟩]; rfl
  unfold cmpK
  rw [e]
  cases kd
  · simp only [if_pos h, Bool.false_eq_true, if_false]
    simp
  · have h2 : -valOrd (atV x kc) (atV y kc) ≠ 0 := by omega
    simp only [if_true, if_pos h2]
    by_cases hl : valOrd (atV x kc) (atV y kc) < 0
    · simp [hl]; omega
    · simp [hl]; omega

set_option maxRecDepth 100000 in
set_option maxHeartbeats 2000000 in
theorem ahead_c (A B K : Option Addr) (n ca m cb q ck : Nat) (x y : List Val) (ks : List KeyD) (w : World) (hA : ManyR Val.cs 6 w A x) (hB : ManyR Val.cs 6 w B y) (hK : ManyR keyCells 2 w K ks)
    (hn : x.length = n) (hm : y.length = m) (hq : ks.length = q) (hx : RowOk x) (hy : RowOk y) (h1 : n ≤ 1000000) (h2 : m ≤ 1000000) (h3 : q ≤ 1000000) :
    Calls Try.prog 12 #[.slice A n ca, .slice B m cb, .slice K q ck] w fun e w' => e = .returned (.bool (decide (cmpK x y ks < 0))) ∧ Below w.heap.size w w' := by
  have HA := Lib.hid hA
  have HB := Lib.hid hB
  have HK := Lib.hid hK
  have HN := Lib.hid hn
  have HM := Lib.hid hm
  have HQ := Lib.hid hq
  have HX := Lib.hid hx
  have HY := Lib.hid hy
  clear hA hB hK hn hm hq hx hy
  go_enter Try.func12, Try.ntmps12
  go_wp2_with fail
  go_loopw [7] (fun i wr => ∃ j : Nat, j ≤ q ∧ i = .int .i64 j ∧ Hid (cmpK x y ks = cmpK x y (ks.drop j)) ∧ Hid (Below w.heap.size w wr)) (fun i _ => q - (intOf i).toNat)
  case atStart => exact ⟨0, Nat.zero_le _, rfl, rfl, Below.refl _ _⟩
  case round =>
    obtain ⟨j, hj, rfl, hc, hb⟩ := hrel
    by_cases hlt : j < q
    · have hjl : j < ks.length := by rw [HQ.out]; exact hlt
      obtain ⟨bK, oK, rfl, lK, hcK⟩ := HK.out (fun e => by rw [e] at hjl; simp at hjl)
      have g := hcK j hjl
      have hdr : Hid (ks.drop j = ks[j] :: ks.drop (j + 1)) := List.drop_eq_getElem_cons hjl
      clear hcK
      generalize ks[j] = kd at *
      obtain ⟨kc, kd⟩ := kd
      have g0 := g 0 _ rfl
      have g1 := g 1 _ rfl
      rw [Nat.add_zero] at g0
      clear g
      have hj0 : (0 : Int) ≤ (j : Int) := by omega
      have hjn : (j : Int) < (q : Int) := by omega
      have wj : IntKind.i64.wrap ((j : Int) + 1) = (j : Int) + 1 := IntWalk.i64_in _ (by omega)
      have HCC : Hid (∀ W, Below w.heap.size w W → AllCells W [(⟨bK, oK + j * 2, none⟩, .int .i64 kc), (⟨bK, oK + j * 2 + 1, none⟩, .bool kd)]) := Lib.hid (fun W hW => ⟨(hW.cell (p := ⟨bK, oK + j * 2, none⟩) lK).trans g0, (hW.cell (p := ⟨bK, oK + j * 2 + 1, none⟩) lK).trans g1, trivial⟩)
      have HAt := Lib.hid (fun (W : World) (hW : Below w.heap.size w W) => rat_c A n ca x kc W (HA.out.next hW) HN.out h1)
      have HBt := Lib.hid (fun (W : World) (hW : Below w.heap.size w W) => rat_c B m cb y kc W (HB.out.next hW) HM.out h2)
      clear g0 g1 lK
      go_wp2_with fail
      have hbV := hb
      generalize wr = V at *
      have HC : AllCells V.drew [(⟨bK, oK + j * 2, none⟩, .int .i64 kc), (⟨bK, oK + j * 2 + 1, none⟩, .bool kd)] := HCC.out _ hbV.out.drew
      refine region_free _ [0, 1, 2, 3, 4, 5, 7, 8, 9, 10, 11, 12] 6 (by kernel_rfl) (by kernel_rfl) (by kernel_rfl) (by kernel_rfl) (by kernel_rfl) (fun _ _ _ _ _ h => h) HC ?_
      intro hne hu
      simp only [AllCells] at hu
      simp only [pick, List.take_succ_cons, List.take_zero, List.drop_succ_cons, List.drop_zero, List.cons_append, List.nil_append]
      repeat (go_big_quiet_step (fail))
      refine wpQuiet_nil ?_
      clear hne hu
      refine of_act (fun a ha => ?_)
      have D0 := Lib.hid (show Duo V.drew 42 #[.int .i64 0, .int .i64 0, .int .i64 0, .string ⟨#[]⟩, .bool false, .int .i64 0] (.agg (atV x kc).cs.toArray) (.agg (atV y kc).cs.toArray) false false false false u23 u30 u8 u9 V.drew from ⟨Below.refl _ _, (fun e => nomatch e), (fun e => nomatch e), (fun e => nomatch e), (fun e => nomatch e), (fun e => nomatch e)⟩)
      refine anyN_dance (g := 2) (fun n listed a' W => ∃ b3 b7 b8 b9 v3 v7 v8 v9, listed = #[true, true, true, true, true, true, b3, true, true, true, true, true, true, b7, b8, b9, false, false] ∧ n = (if b3 then 0 else 1) + (if b7 then 0 else 1) + (if b8 then 0 else 1) + (if b9 then 0 else 1) ∧ (b7 = true → b3 = true) ∧ a' = { tmps := (((a.tmps.setIfInBounds 23 v3).setIfInBounds 30 v7).setIfInBounds 8 v8).setIfInBounds 9 v9, defers := [] } ∧ Hid (Duo V.drew 42 #[.int .i64 0, .int .i64 0, .int .i64 0, .string ⟨#[]⟩, .bool false, .int .i64 0] (.agg (atV x kc).cs.toArray) (.agg (atV y kc).cs.toArray) b3 b7 b8 b9 v3 v7 v8 v9 W)) ?ready ?step ?done 4 _ a V.drew ?start
      case start =>
        subst ha
        exact ⟨false, false, false, false, u23, u30, u8, u9, by kernel_rfl, rfl, (fun e => nomatch e), by simp only [List.setIfInBounds_toArray, List.set_cons_succ, List.set_cons_zero], D0⟩
      case ready =>
        rintro n listed a' W ⟨b3, b7, b8, b9, v3, v7, v8, v9, rfl, hn, h73, _, _⟩ hh
        cases b3 <;> cases b7 <;> cases b8 <;> cases b9 <;> first
          | (have := h73 rfl; cases this; done)
          | (simp at hn; done)
          | (refine not_empty ?_ hh; kernel_rfl)
      case step =>
        rintro n listed a' W i ⟨b3, b7, b8, b9, v3, v7, v8, v9, rfl, hn, h73, rfl, hD⟩ hi
        obtain ⟨hi1, hi2, hi3⟩ := ready_spec hi
        have h12 : i < 18 := hi1
        clear hi hi1
        subst ha
        simp only [List.setIfInBounds_toArray, List.set_cons_succ, List.set_cons_zero]
        have hcases : i = 6 ∨ i = 13 ∨ i = 14 ∨ i = 15 ∨ i = 16 ∨ i = 17 ∨ (i < 6 ∨ (6 < i ∧ i < 13)) := by omega
        clear h12
        have hbW := Lib.hid ((hbV.out.drew).trans (hD.out.below.mono hbV.out.size))
        rcases hcases with rfl | rfl | rfl | rfl | rfl | rfl | h10
        · have e3 : b3 = false := hi2
          subst e3
          simp only [List.take_succ_cons, List.take_zero, List.drop_succ_cons, List.drop_zero]
          go_wp2_with fail
          refine (HAt.out W hbW.out).mono ?_
          rintro e W1 ⟨rfl, b1⟩
          go_wp2_with fail
          refine ⟨HCC.out _ (hbW.out.trans (b1.mono hbW.out.size)), true, b7, b8, b9, _, v7, v8, v9, ?_, ?_, fun _ => rfl, ?_, Lib.hid (hD.out.next b1).call3⟩
          · simp
          · simp at hn ⊢; omega
          · simp only [List.setIfInBounds_toArray, List.set_cons_succ, List.set_cons_zero]
        · have e7 : b7 = false := hi2
          have e3 : b3 = true := hi3 _ rfl ⟨6, .chain⟩ (by simp) rfl
          subst e7
          subst e3
          simp only [List.take_succ_cons, List.take_zero, List.drop_succ_cons, List.drop_zero]
          go_wp2_with fail
          refine (HBt.out W hbW.out).mono ?_
          rintro e W1 ⟨rfl, b1⟩
          go_wp2_with fail
          refine ⟨HCC.out _ (hbW.out.trans (b1.mono hbW.out.size)), true, true, b8, b9, v3, _, v8, v9, ?_, ?_, fun _ => rfl, ?_, Lib.hid (hD.out.next b1).call7⟩
          · simp
          · simp at hn ⊢; omega
          · simp only [List.setIfInBounds_toArray, List.set_cons_succ, List.set_cons_zero]
        · have e8 : b8 = false := hi2
          subst e8
          simp only [List.take_succ_cons, List.take_zero, List.drop_succ_cons, List.drop_zero]
          go_wp2_with fail
          refine ⟨HCC.out _ (hbW.out.alloc hbW.out.size _), b3, b7, true, b9, v3, v7, _, v9, ?_, ?_, h73, ?_, Lib.hid hD.out.new8⟩
          · simp
          · simp at hn ⊢; omega
          · simp only [List.setIfInBounds_toArray, List.set_cons_succ, List.set_cons_zero]
        · have e9 : b9 = false := hi2
          subst e9
          simp only [List.take_succ_cons, List.take_zero, List.drop_succ_cons, List.drop_zero]
          go_wp2_with fail
          refine ⟨HCC.out _ (hbW.out.alloc hbW.out.size _), b3, b7, b8, true, v3, v7, v8, _, ?_, ?_, h73, ?_, Lib.hid hD.out.new9⟩
          · simp
          · simp at hn ⊢; omega
          · simp only [List.setIfInBounds_toArray, List.set_cons_succ, List.set_cons_zero]
        · have e8 : b8 = true := hi3 _ rfl ⟨14, .data⟩ (by simp) rfl
          have e3 : b3 = true := hi3 _ rfl ⟨6, .data⟩ (by simp) rfl
          have e7 : b7 = true := hi3 _ rfl ⟨13, .chain⟩ (by simp) rfl
          have e9 : b9 = true := hi3 _ rfl ⟨15, .phase⟩ (by simp) rfl
          subst e8; subst e3; subst e7; subst e9
          exact absurd hn (by simp)
        · exact absurd (show false = true from hi3 _ rfl ⟨16, .chain⟩ (by simp) rfl) (by decide)
        · rcases (by omega : i = 0 ∨ i = 1 ∨ i = 2 ∨ i = 3 ∨ i = 4 ∨ i = 5 ∨ i = 7 ∨ i = 8 ∨ i = 9 ∨ i = 10 ∨ i = 11 ∨ i = 12) with rfl | rfl | rfl | rfl | rfl | rfl | rfl | rfl | rfl | rfl | rfl | rfl <;> exact absurd (show true = false from hi2) (by decide)
      case done =>
        rintro listed a' W ⟨b3, b7, b8, b9, v3, v7, v8, v9, rfl, hn, h73, rfl, hD⟩
        obtain ⟨e3, e7, e8, e9⟩ := four_true hn
        clear hn h73
        subst e3; subst e7; subst e8; subst e9
        obtain rfl := hD.out.r3 rfl
        obtain rfl := hD.out.r7 rfl
        obtain ⟨X, rfl, hX, bX8⟩ := hD.out.r8 rfl
        obtain ⟨Y, rfl, hY, bY9⟩ := hD.out.r9 rfl
        have hXY : X ≠ Y := fun e => hD.out.ne rfl rfl (by rw [e])
        subst ha
        simp only [List.setIfInBounds_toArray, List.set_cons_succ, List.set_cons_zero]
        have hbW := (hbV.out.drew).trans (hD.out.below.mono hbV.out.size)
        have hXw : w.heap.size ≤ X := Nat.le_trans hbV.out.size hX
        have hYw : w.heap.size ≤ Y := Nat.le_trans hbV.out.size hY
        have VX := Lib.hid (atV_ok HX.out kc)
        have VY := Lib.hid (atV_ok HY.out kc)
        have HHH := Lib.hid (And.intro hXY (And.intro hXw hYw))
        have B8 := Lib.hid bX8
        have B9 := Lib.hid bY9
        have HBW := Lib.hid hbW
        clear hD hX hY hXw hYw bX8 bY9 hbW hXY HC
        obtain ⟨va, hva⟩ : ∃ v, atV x kc = v := ⟨_, rfl⟩
        obtain ⟨vb, hvb⟩ : ∃ v, atV y kc = v := ⟨_, rfl⟩
        have HVA := Lib.hid hva
        have HVB := Lib.hid hvb
        rw [hva] at VX ⊢
        rw [hvb] at VY ⊢
        clear hva hvb
        unfold Val.cs
        have f0 := B8.out.frozen 0
        have c0 : W.cell? ⟨X, 0, none⟩ = some (.int .i64 0) := B8.out.cell 0
        have f1 := B8.out.frozen 1
        have c1 : W.cell? ⟨X, 1, none⟩ = some (.int .i64 0) := B8.out.cell 1
        have f2 := B8.out.frozen 2
        have c2 : W.cell? ⟨X, 2, none⟩ = some (.int .i64 0) := B8.out.cell 2
        have f3 := B8.out.frozen 3
        have c3 : W.cell? ⟨X, 3, none⟩ = some (.string ⟨#[]⟩) := B8.out.cell 3
        have f4 := B8.out.frozen 4
        have c4 : W.cell? ⟨X, 4, none⟩ = some (.bool false) := B8.out.cell 4
        have f5 := B8.out.frozen 5
        have c5 : W.cell? ⟨X, 5, none⟩ = some (.int .i64 0) := B8.out.cell 5
        have lB := B8.out.lt
        refine anyN_oneL 16 (by kernel_rfl) ?_
        simp only [List.take_succ_cons, List.take_zero, List.drop_succ_cons, List.drop_zero]
        go_wp2_with fail
        clear f0 f1 f2 f3 f4 f5 c0 c1 c2 c3 c4 c5 lB
        change (_ → AllCells (put6 W X (.int .i64 va.kind) (.int .i64 va.mant) (.int .i64 va.exp) (.string va.text) (.bool va.truth) (.int .i64 va.fault)) _) ∧ wpAnyN _ _ _ _ _ _ _ _ _ (put6 W X (.int .i64 va.kind) (.int .i64 va.mant) (.int .i64 va.exp) (.string va.text) (.bool va.truth) (.int .i64 va.fault))
        have B8' := Lib.hid (blk_put6 B8.out (.int .i64 va.kind) (.int .i64 va.mant) (.int .i64 va.exp) (.string va.text) (.bool va.truth) (.int .i64 va.fault))
        have B9' := Lib.hid (blk_put6far B9.out (fun e => HHH.out.1 e.symm) (.int .i64 va.kind) (.int .i64 va.mant) (.int .i64 va.exp) (.string va.text) (.bool va.truth) (.int .i64 va.fault))
        have HB' := Lib.hid (below_put6 HBW.out HHH.out.2.1 (.int .i64 va.kind) (.int .i64 va.mant) (.int .i64 va.exp) (.string va.text) (.bool va.truth) (.int .i64 va.fault))
        generalize put6 W X (.int .i64 va.kind) (.int .i64 va.mant) (.int .i64 va.exp) (.string va.text) (.bool va.truth) (.int .i64 va.fault) = W2 at *
        refine And.intro (fun _ => HCC.out _ HB'.out) ?_
        have f0 := B9'.out.frozen 0
        have c0 : W2.cell? ⟨Y, 0, none⟩ = some (.int .i64 0) := B9'.out.cell 0
        have f1 := B9'.out.frozen 1
        have c1 : W2.cell? ⟨Y, 1, none⟩ = some (.int .i64 0) := B9'.out.cell 1
        have f2 := B9'.out.frozen 2
        have c2 : W2.cell? ⟨Y, 2, none⟩ = some (.int .i64 0) := B9'.out.cell 2
        have f3 := B9'.out.frozen 3
        have c3 : W2.cell? ⟨Y, 3, none⟩ = some (.string ⟨#[]⟩) := B9'.out.cell 3
        have f4 := B9'.out.frozen 4
        have c4 : W2.cell? ⟨Y, 4, none⟩ = some (.bool false) := B9'.out.cell 4
        have f5 := B9'.out.frozen 5
        have c5 : W2.cell? ⟨Y, 5, none⟩ = some (.int .i64 0) := B9'.out.cell 5
        have lB := B9'.out.lt
        refine anyN_oneL 17 (by kernel_rfl) ?_
        simp only [List.take_succ_cons, List.take_zero, List.drop_succ_cons, List.drop_zero]
        go_wp2_with fail
        clear f0 f1 f2 f3 f4 f5 c0 c1 c2 c3 c4 c5 lB
        change (_ → AllCells (put6 W2 Y (.int .i64 vb.kind) (.int .i64 vb.mant) (.int .i64 vb.exp) (.string vb.text) (.bool vb.truth) (.int .i64 vb.fault)) _) ∧ wpAnyN _ _ _ _ _ _ _ _ _ (put6 W2 Y (.int .i64 vb.kind) (.int .i64 vb.mant) (.int .i64 vb.exp) (.string vb.text) (.bool vb.truth) (.int .i64 vb.fault))
        have B9'' := Lib.hid (blk_put6 B9'.out (.int .i64 vb.kind) (.int .i64 vb.mant) (.int .i64 vb.exp) (.string vb.text) (.bool vb.truth) (.int .i64 vb.fault))
        have B8'' := Lib.hid (blk_put6far B8'.out (fun e => HHH.out.1 e) (.int .i64 vb.kind) (.int .i64 vb.mant) (.int .i64 vb.exp) (.string vb.text) (.bool vb.truth) (.int .i64 vb.fault))
        have HB'' := Lib.hid (below_put6 HB'.out HHH.out.2.2 (.int .i64 vb.kind) (.int .i64 vb.mant) (.int .i64 vb.exp) (.string vb.text) (.bool vb.truth) (.int .i64 vb.fault))
        generalize put6 W2 Y (.int .i64 vb.kind) (.int .i64 vb.mant) (.int .i64 vb.exp) (.string vb.text) (.bool vb.truth) (.int .i64 vb.fault) = W3 at *
        refine And.intro (fun _ => HCC.out _ HB''.out) ?_
        refine ⟨by kernel_rfl, ?_⟩
        clear B8 B9 HBW B8' B9' HB'
        have HO := Lib.hid (rorder_c va vb VX.out.1 VY.out.1 VX.out.2 VY.out.2)
        unfold Val.cs at HO
        have p0 : W3.cell? ⟨X, 0, none⟩ = some (.int .i64 va.kind) := B8''.out.cell 0
        have p1 : W3.cell? ⟨X, 1, none⟩ = some (.int .i64 va.mant) := B8''.out.cell 1
        have p2 : W3.cell? ⟨X, 2, none⟩ = some (.int .i64 va.exp) := B8''.out.cell 2
        have p3 : W3.cell? ⟨X, 3, none⟩ = some (.string va.text) := B8''.out.cell 3
        have p4 : W3.cell? ⟨X, 4, none⟩ = some (.bool va.truth) := B8''.out.cell 4
        have p5 : W3.cell? ⟨X, 5, none⟩ = some (.int .i64 va.fault) := B8''.out.cell 5
        have q0 : W3.cell? ⟨Y, 0, none⟩ = some (.int .i64 vb.kind) := B9''.out.cell 0
        have q1 : W3.cell? ⟨Y, 1, none⟩ = some (.int .i64 vb.mant) := B9''.out.cell 1
        have q2 : W3.cell? ⟨Y, 2, none⟩ = some (.int .i64 vb.exp) := B9''.out.cell 2
        have q3 : W3.cell? ⟨Y, 3, none⟩ = some (.string vb.text) := B9''.out.cell 3
        have q4 : W3.cell? ⟨Y, 4, none⟩ = some (.bool vb.truth) := B9''.out.cell 4
        have q5 : W3.cell? ⟨Y, 5, none⟩ = some (.int .i64 vb.fault) := B9''.out.cell 5
        have lX := B8''.out.lt
        have lY := B9''.out.lt
        have HDr := Lib.hid (hc.out.trans (by rw [hdr.out] : cmpK x y (ks.drop j) = cmpK x y (⟨kc, kd⟩ :: ks.drop (j + 1))))
        have HCK := Lib.hid (HCC.out W3 HB''.out)
        clear hc hdr
        by_cases ka : va.kind = 0
        · by_cases kb : vb.kind = 0
          · have HZ := Lib.hid (HDr.out.trans (ahead_both (by rw [HVA.out]; exact ka) (by rw [HVB.out]; exact kb)))
            rw [ka] at p0
            rw [kb] at q0
            clear ka kb
            go_wp2_with fail
            exact ⟨⟨j + 1, by omega, by go_num, Lib.hid HZ.out, Lib.hid HB''.out⟩, by simp [intOf] <;> omega⟩
          · have kbb : (vb.kind == 0) = false := by simpa using kb
            have HZ := Lib.hid (HDr.out.trans (ahead_l (by rw [HVA.out]; exact ka) (by rw [HVB.out]; exact kb)))
            rw [ka] at p0
            clear ka kb
            go_wp2_with fail
            go_ret
            exact ⟨ret_bool (by rw [HZ.out]; rfl), HB''.out⟩
        · have kab : (va.kind == 0) = false := by simpa using ka
          by_cases kb : vb.kind = 0
          · have HZ := Lib.hid (HDr.out.trans (ahead_r (by rw [HVA.out]; exact ka) (by rw [HVB.out]; exact kb)))
            rw [kb] at q0
            clear ka kb
            go_wp2_with fail
            go_ret
            exact ⟨ret_bool (by rw [HZ.out]; rfl), HB''.out⟩
          · have kbb : (vb.kind == 0) = false := by simpa using kb
            have HKa := Lib.hid ka
            have HKb := Lib.hid kb
            clear ka kb
            go_wp2_with fail
            refine (HO.out _).mono ?_
            rintro e W4 ⟨rfl, b4⟩
            have HBF := Lib.hid (HB''.out.trans (b4.mono HB''.out.size))
            clear b4 p0 p1 p2 p3 p4 p5 q0 q1 q2 q3 q4 q5 lX lY HO
            obtain ⟨z0, z1, _⟩ := HCC.out W4 HBF.out
            by_cases hz : valOrd va vb = 0
            · have hzb : (valOrd va vb != 0) = false := by simpa using hz
              have HZ := Lib.hid (HDr.out.trans (ahead_eq (by rw [HVA.out, HVB.out]; exact hz)))
              clear hz
              go_wp2_with fail
              exact ⟨⟨j + 1, by omega, by go_num, Lib.hid HZ.out, Lib.hid HBF.out⟩, by simp [intOf] <;> omega⟩
            · have hzb : (valOrd va vb != 0) = true := by simpa using hz
              have HZ := Lib.hid (ahead_ne (x := x) (y := y) (kc := kc) (kd := kd) (ks := ks.drop (j + 1)) (by rw [HVA.out]; exact HKa.out) (by rw [HVB.out]; exact HKb.out) (by rw [HVA.out, HVB.out]; exact hz))
              clear hz
              go_wp2_with fail
              go_ret
              exact ⟨ret_bool (by rw [HDr.out, HZ.out, HVA.out, HVB.out]; rfl), HBF.out⟩
    · obtain rfl : j = q := by omega
      have hjn : decide ((j : Int) < (j : Int)) = false := decide_eq_false (by omega)
      have he := hc.out
      rw [List.drop_eq_nil_of_le (by have := HQ.out; omega)] at he
      have HE := Lib.hid he
      clear he
      go_wp2_with fail
      go_ret
      exact ⟨ret_bool (by rw [HE.out]; rfl), hb.out⟩
end Go.Proofs.Ytifdpcjfjoekmaa
