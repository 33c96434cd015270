/-
  counterpanelaw03.AxisFull, walked: it returns true. Condition: the number is one of uint16.
-/
import Derived.Test.YtgmlhpkhecbkoaaL1
import Derived.Test.YtgmlhpkhecbkoaaH3
namespace Go.Proofs.Ytgmlhpkhecbkoaa
open Go.RowKit

/-- The ids made so far, and the id's box. -/
structure FS (w : World) (own : Tags) (x y : Int) (ids : List Id) (v : Value) (wr : World) : Prop where
  clean : Clean w own wr
  box : Box wr own w.heap.size 24 #[.int .i64 x, .int .i64 y]
  row : Row wr own 3 24 2 v ids.length (idCells ids)
section
variable {w wr w' : World} {own own' : Tags} {x y : Int} {ids ids' : List Id} {v v' : Value}
theorem FS.next (h : FS w own x y ids v wr) (k : Below wr.heap.size wr w') : FS w own x y ids v w' := ⟨h.clean.next k, h.box.next k, h.row.keep (Same.below k)⟩
theorem FS.alloc (h : FS w own x y ids v wr) (o : Obj) : FS w own x y ids v (wr.alloc o) := h.next ((Below.refl _ _).alloc (Nat.le_refl _) o)
theorem FS.tr {t : Nat} (h : FS w own x y ids v wr) (k : Tr own t wr own' w') (ht : t ≠ 0) (h3 : 3 ≠ t) : FS w own' x y ids v w' := ⟨h.clean.tr k ht, h.box.tr k ht, h.row.keep (k.toSame h3)⟩
theorem FS.grow (h : FS w own x y ids v wr) (hg : wr.grownBy w' v.ownBlock) (hr : w'.ownsRow 0 24 2 v' ids'.length (idCells ids')) (hat : v'.ownBlock = v.ownBlock ∨ v'.ownBlock = some wr.heap.size) : ∃ own', FS w own' x y ids' v' w' := by
  obtain ⟨own2, tr2, _, r2⟩ := h.row.app (Tr.refl own 3 wr) hg hr (hat.imp id (fun e => ⟨e, (hr.lt _ e).2⟩))
  exact ⟨own2, h.clean.tr tr2 (by decide), h.box.tr tr2 (by decide), r2⟩
end

set_option maxRecDepth 100000 in
set_option maxHeartbeats 8000000 in
theorem full_any (n : Nat) (x y : Int) (w : World) (hn : n < 65536) :
    Calls Try.prog 7 #[.int .u16 n, .agg #[.int .i64 x, .int .i64 y]] w fun e w' => e = .returned (.bool true) ∧ Below w.heap.size w w' := by
  go_enter Try.func7, Try.ntmps7
  go_wp2_with fail
  have k0 := (Clean.start w).alloc (.cells #[.int .i64 x, .int .i64 y] 24)
  have x0 := Box.new (Clean.start w).fresh 24 #[.int .i64 x, .int .i64 y]
  refine (awake_c _).mono ?_
  rintro e w1 ⟨rfl, hB⟩
  have F1 : Hid (FS w (fun _ => 0) x y (fulls 0) (.slice none 0 0) w1) := ⟨k0.next hB, x0.next hB, Row.nil _ _ _ _ _⟩
  clear k0 x0 hB
  go_wp2_with fail
  obtain ⟨M, hM, hM1, hM2⟩ : ∃ M : Nat, 990 + (n : Int) % 20 = (M : Int) ∧ 990 ≤ M ∧ M ≤ 1009 := ⟨990 + n % 20, by omega, by omega, by omega⟩
  simp only [hM]
  clear hM hn
  go_loopw [5, 7] (fun v i wr => ∃ (k : Nat) (ow : Tags), k ≤ M ∧ i = .int .i64 ((k : Int) + 1) ∧ FS w ow x y (fulls k) v wr) (fun _ i _ => M + 1 - (intOf i).toNat)
  case atStart => exact ⟨0, _, Nat.zero_le _, rfl, F1.out⟩
  case round =>
    clear F1
    obtain ⟨k, ow, hk, rfl, f0⟩ := hrel
    by_cases hlt : k < M
    · have hkM : (k : Int) + 1 ≤ (M : Int) := by omega
      obtain ⟨i0, hi, hz0, hz1, hz2⟩ := info_parts Try.info24
      have F0 := Lib.hid (f0.alloc (.cells #[.int .i64 7, .int .i64 ((k : Int) + 1)] 24))
      have hln := Lib.hid (length_fulls k)
      clear f0
      go_wp2_with (at_builtin; refine wpList_append_own_at _ rfl _ _ _ rfl 0 24 i0 _ 2 16 Try.underlying22 hi hz0 hz1 hz2 rfl (by omega) _ _ _ rfl F0.out.row.1 ⟨wr.heap.size, 0, none⟩ 1 1 [.int .i64 7, .int .i64 ((k : Int) + 1)] rfl rfl (news_new wr wr.heap.size rfl #[.int .i64 7, .int .i64 ((k : Int) + 1)] 24) (by simp [Value.oneCell']) (by rw [hln.out]; simp only [maxLen]; omega) (by rw [hln.out]; omega) (Nat.zero_le _) ?_; intro v' w2 hown2 hgrow2 _ hat2)
      obtain ⟨ow2, f2⟩ := F0.out.grow (ids' := fulls (k + 1)) hgrow2 (by simpa [fulls, idCells_append, idCells] using hown2) hat2
      go_roundw
      case rel => exact ⟨k + 1, ow2, by omega, by go_num, f2⟩
      case measure => simp [intOf]; omega
    · have hkk : k = M := by omega
      subst hkk
      have hkM : ¬ ((k : Int) + 1 ≤ (k : Int)) := by omega
      obtain ⟨A, c, hv, _⟩ := f0.row.form
      have F0 := Lib.hid f0
      have hln := length_fulls k
      clear f0
      subst hv
      rw [hln]
      go_wp2_with fail
      refine (new_c A k c (fulls k) wr ow 3 1 F0.out.row.toIdsR.2 hln (by simp only [maxLen]; omega) (by decide)).mono ?_
      rintro e w2 ⟨own2, qa, rfl, tr2, hqa, a2⟩
      rw [newL_fulls] at a2
      have F2 := Lib.hid (F0.out.tr tr2 (by decide) (by decide))
      have A2 := Lib.hid a2
      have HL := Lib.hid (length_fulls (min k 1000))
      have HN := Lib.hid (newL_fulls k)
      have HI := Lib.hid (insLive_all (fulls (min k 1000)) (0, 0) (x, y))
      have HA := Lib.hid (aliveOf_all (fulls (min k 1000)))
      have HA2 := Lib.hid (aliveOf_all (insIds (fulls (min k 1000)) (0, 0) (x, y)))
      have Hln := Lib.hid hln
      clear tr2 a2 hqa F0 hln
      by_cases hk1 : k ≤ 1000
      · have hmin : ((min k 1000 : Nat) : Int) = (k : Int) := by omega
        have hk2 : (k : Int) ≤ 1000 := by omega
        generalize fulls (min k 1000) = L at *
        go_wp2_with fail
        refine (len_c w2 own2 1 qa L _ A2.out).mono ?_
        rintro e w3 ⟨rfl, own3, tr3, a3, _⟩
        rw [HA.out, HL.out, hmin]
        have F3 := Lib.hid (F2.out.tr tr3 (by decide) (by decide))
        have A3 := Lib.hid a3
        clear tr3 a3 F2 A2
        have c0 := F3.out.box.blk.cell 0
        have c1 := F3.out.box.blk.cell 1
        simp at c0 c1
        have hmm : (((k : Int) : Int) != (k : Int)) = false := by simp
        go_wp2_with fail
        refine (insert_c w3 own3 1 qa L _ 0 0 x y A3.out).mono ?_
        rintro e w4 ⟨rfl, own4, tr4, a4⟩
        rw [HI.out] at a4
        have F4 := Lib.hid (F3.out.tr tr4 (by decide) (by decide))
        have A4 := Lib.hid a4
        clear tr4 a4 F3 A3 c0 c1 HI
        generalize hR : insR L (0, 0) (x, y) = r at *
        go_wp2_with fail
        refine (rnew_c A k c (fulls k) w4 own4 3 2 (by have := F4.out.row.toIdsR.2; exact this) Hln.out (by simp only [maxLen]; omega) (by decide)).mono ?_
        rintro e w5 ⟨own5, qx, rfl, tr5, hqx, x5⟩
        rw [HN.out] at x5
        have F5 := Lib.hid (F4.out.tr tr5 (by decide) (by decide))
        have A5 := Lib.hid (A4.out.other tr5 (by decide))
        have X5 := Lib.hid x5
        have HR := Lib.hid hR
        clear tr5 x5 F4 A4 hqx hR
        have c0 := F5.out.box.blk.cell 0
        have c1 := F5.out.box.blk.cell 1
        simp at c0 c1
        have hrr : (r == r) = true := by simp
        go_wp2_with fail
        refine region_picked [] [0, 1, 2] [0,1,2,3,4,5,6,7,8,9,10,11,12,13,14,15,16] 14 (by kernel_rfl) (by kernel_rfl) (by kernel_rfl) (by kernel_rfl) (by kernel_rfl) (by kernel_rfl) (fun _ _ _ _ _ h => h) trivial ?_
        intro hne hu
        simp only [pick, List.take_succ_cons, List.take_zero, List.drop_succ_cons, List.drop_zero, List.cons_append, List.nil_append]
        repeat (go_big_quiet_step (fail))
        refine wpQuiet_nil ?_
        clear hne hu
        refine anyN_oneL 3 (by kernel_rfl) ?_
        simp only [List.take_succ_cons, List.take_zero, List.drop_succ_cons, List.drop_zero]
        go_wp2_with fail
        refine And.intro (fun _ => trivial) ?_
        refine anyN_oneL 4 (by kernel_rfl) ?_
        simp only [List.take_succ_cons, List.take_zero, List.drop_succ_cons, List.drop_zero]
        go_wp2_with fail
        refine (rinsert_c w5.drew own5 2 qx L _ 0 0 x y (X5.out.keep Same.drew)).mono ?_
        rintro e w6 ⟨rfl, own6, tr6, x6⟩
        rw [HR.out]
        obtain ⟨_, _, vI, vL, xx⟩ := x6
        generalize insIds L (0, 0) (x, y) = I at *
        obtain ⟨AI, cI, rfl, _⟩ := xx.rI.form
        have F6 := Lib.hid ((F5.out.next ((Below.refl _ _).drew)).tr tr6 (by decide) (by decide))
        have A6 := Lib.hid ((A5.out.keep Same.drew).other tr6 (by decide))
        have XX := Lib.hid xx
        clear tr6 xx F5 A5 X5 c0 c1
        go_wp2_with fail
        refine And.intro (fun _ => trivial) ?_
        refine anyN_oneL 5 (by kernel_rfl) ?_
        simp only [List.take_succ_cons, List.take_zero, List.drop_succ_cons, List.drop_zero]
        go_wp2_with fail
        refine And.intro (fun _ => trivial) ?_
        refine anyN_oneL 6 (by kernel_rfl) ?_
        simp only [List.take_succ_cons, List.take_zero, List.drop_succ_cons, List.drop_zero]
        go_wp2_with fail
        refine And.intro (fun _ => trivial) ?_
        have c0 := XX.out.blk.cell 0
        simp at c0
        refine anyN_again [(⟨qx, 0, none⟩, .slice AI I.length cI)] [7, 9, 10, 11, 12, 13] [0,1,2,3,4,5,6,7,8,9,10,11,12,13,14,15,16] 4 (by kernel_rfl) (by kernel_rfl) (by kernel_rfl) (by kernel_rfl) (by kernel_rfl) (fun _ _ _ _ _ h => h) ⟨c0, trivial⟩ ?_
        intro hne hu
        simp only [AllCells] at hu
        simp only [pick, List.take_succ_cons, List.take_zero, List.drop_succ_cons, List.drop_zero, List.cons_append, List.nil_append]
        repeat (go_big_quiet_step (fail))
        refine wpQuiet_nil ?_
        clear hne hu
        refine anyN_oneL 8 (by kernel_rfl) ?_
        simp only [List.take_succ_cons, List.take_zero, List.drop_succ_cons, List.drop_zero]
        go_wp2_with fail
        refine (len_c w6 own6 1 qa I _ A6.out).mono ?_
        rintro e w7 ⟨rfl, own7, tr7, a7, _⟩
        rw [HA2.out]
        have d0 := ((XX.out.keep (tr7.toSame (by decide))).blk.cell 0)
        simp at d0
        have F7 := Lib.hid (F6.out.tr tr7 (by decide) (by decide))
        clear tr7 a7 F6 A6
        have hll : ((I.length : Int) == (I.length : Int)) = true := by simp
        go_wp2_with fail
        refine And.intro (fun _ => ⟨d0, trivial⟩) ?_
        refine anyN_oneL 14 (by kernel_rfl) ?_
        simp only [List.take_succ_cons, List.take_zero, List.drop_succ_cons, List.drop_zero]
        go_wp2_with fail
        refine And.intro (fun _ => ⟨d0, trivial⟩) ?_
        refine anyN_oneL 15 (by kernel_rfl) ?_
        simp only [List.take_succ_cons, List.take_zero, List.drop_succ_cons, List.drop_zero]
        go_wp2_with fail
        refine And.intro (fun _ => ⟨d0, trivial⟩) ?_
        refine anyN_oneL 16 (by kernel_rfl) ?_
        simp only [List.take_succ_cons, List.take_zero, List.drop_succ_cons, List.drop_zero]
        go_wp2_with fail
        refine And.intro (fun _ => ⟨d0, trivial⟩) ?_
        refine ⟨by kernel_rfl, ?_⟩
        go_wp2_with fail
        go_ret
        exact ⟨rfl, F7.out.clean.below⟩
      · have hmin : ((min k 1000 : Nat) : Int) = 1000 := by omega
        have hk2 : (1000 : Int) < (k : Int) := by omega
        generalize fulls (min k 1000) = L at *
        go_wp2_with fail
        refine (len_c w2 own2 1 qa L _ A2.out).mono ?_
        rintro e w3 ⟨rfl, own3, tr3, a3, _⟩
        rw [HA.out, HL.out, hmin]
        have F3 := Lib.hid (F2.out.tr tr3 (by decide) (by decide))
        have A3 := Lib.hid a3
        clear tr3 a3 F2 A2
        have c0 := F3.out.box.blk.cell 0
        have c1 := F3.out.box.blk.cell 1
        simp at c0 c1
        have hmm : (((1000 : Int) : Int) != (1000 : Int)) = false := by simp
        go_wp2_with fail
        refine (insert_c w3 own3 1 qa L _ 0 0 x y A3.out).mono ?_
        rintro e w4 ⟨rfl, own4, tr4, a4⟩
        rw [HI.out] at a4
        have F4 := Lib.hid (F3.out.tr tr4 (by decide) (by decide))
        have A4 := Lib.hid a4
        clear tr4 a4 F3 A3 c0 c1 HI
        generalize hR : insR L (0, 0) (x, y) = r at *
        go_wp2_with fail
        refine (rnew_c A k c (fulls k) w4 own4 3 2 (by have := F4.out.row.toIdsR.2; exact this) Hln.out (by simp only [maxLen]; omega) (by decide)).mono ?_
        rintro e w5 ⟨own5, qx, rfl, tr5, hqx, x5⟩
        rw [HN.out] at x5
        have F5 := Lib.hid (F4.out.tr tr5 (by decide) (by decide))
        have A5 := Lib.hid (A4.out.other tr5 (by decide))
        have X5 := Lib.hid x5
        have HR := Lib.hid hR
        clear tr5 x5 F4 A4 hqx hR
        have c0 := F5.out.box.blk.cell 0
        have c1 := F5.out.box.blk.cell 1
        simp at c0 c1
        have hrr : (r == r) = true := by simp
        go_wp2_with fail
        refine region_picked [] [0, 1, 2] [0,1,2,3,4,5,6,7,8,9,10,11,12,13,14,15,16] 14 (by kernel_rfl) (by kernel_rfl) (by kernel_rfl) (by kernel_rfl) (by kernel_rfl) (by kernel_rfl) (fun _ _ _ _ _ h => h) trivial ?_
        intro hne hu
        simp only [pick, List.take_succ_cons, List.take_zero, List.drop_succ_cons, List.drop_zero, List.cons_append, List.nil_append]
        repeat (go_big_quiet_step (fail))
        refine wpQuiet_nil ?_
        clear hne hu
        refine anyN_oneL 3 (by kernel_rfl) ?_
        simp only [List.take_succ_cons, List.take_zero, List.drop_succ_cons, List.drop_zero]
        go_wp2_with fail
        refine And.intro (fun _ => trivial) ?_
        refine anyN_oneL 4 (by kernel_rfl) ?_
        simp only [List.take_succ_cons, List.take_zero, List.drop_succ_cons, List.drop_zero]
        go_wp2_with fail
        refine (rinsert_c w5.drew own5 2 qx L _ 0 0 x y (X5.out.keep Same.drew)).mono ?_
        rintro e w6 ⟨rfl, own6, tr6, x6⟩
        rw [HR.out]
        obtain ⟨_, _, vI, vL, xx⟩ := x6
        generalize insIds L (0, 0) (x, y) = I at *
        obtain ⟨AI, cI, rfl, _⟩ := xx.rI.form
        have F6 := Lib.hid ((F5.out.next ((Below.refl _ _).drew)).tr tr6 (by decide) (by decide))
        have A6 := Lib.hid ((A5.out.keep Same.drew).other tr6 (by decide))
        have XX := Lib.hid xx
        clear tr6 xx F5 A5 X5 c0 c1
        go_wp2_with fail
        refine And.intro (fun _ => trivial) ?_
        refine anyN_oneL 5 (by kernel_rfl) ?_
        simp only [List.take_succ_cons, List.take_zero, List.drop_succ_cons, List.drop_zero]
        go_wp2_with fail
        refine And.intro (fun _ => trivial) ?_
        refine anyN_oneL 6 (by kernel_rfl) ?_
        simp only [List.take_succ_cons, List.take_zero, List.drop_succ_cons, List.drop_zero]
        go_wp2_with fail
        refine And.intro (fun _ => trivial) ?_
        have c0 := XX.out.blk.cell 0
        simp at c0
        refine anyN_again [(⟨qx, 0, none⟩, .slice AI I.length cI)] [7, 9, 10, 11, 12, 13] [0,1,2,3,4,5,6,7,8,9,10,11,12,13,14,15,16] 4 (by kernel_rfl) (by kernel_rfl) (by kernel_rfl) (by kernel_rfl) (by kernel_rfl) (fun _ _ _ _ _ h => h) ⟨c0, trivial⟩ ?_
        intro hne hu
        simp only [AllCells] at hu
        simp only [pick, List.take_succ_cons, List.take_zero, List.drop_succ_cons, List.drop_zero, List.cons_append, List.nil_append]
        repeat (go_big_quiet_step (fail))
        refine wpQuiet_nil ?_
        clear hne hu
        refine anyN_oneL 8 (by kernel_rfl) ?_
        simp only [List.take_succ_cons, List.take_zero, List.drop_succ_cons, List.drop_zero]
        go_wp2_with fail
        refine (len_c w6 own6 1 qa I _ A6.out).mono ?_
        rintro e w7 ⟨rfl, own7, tr7, a7, _⟩
        rw [HA2.out]
        have d0 := ((XX.out.keep (tr7.toSame (by decide))).blk.cell 0)
        simp at d0
        have F7 := Lib.hid (F6.out.tr tr7 (by decide) (by decide))
        clear tr7 a7 F6 A6
        have hll : ((I.length : Int) == (I.length : Int)) = true := by simp
        go_wp2_with fail
        refine And.intro (fun _ => ⟨d0, trivial⟩) ?_
        refine anyN_oneL 14 (by kernel_rfl) ?_
        simp only [List.take_succ_cons, List.take_zero, List.drop_succ_cons, List.drop_zero]
        go_wp2_with fail
        refine And.intro (fun _ => ⟨d0, trivial⟩) ?_
        refine anyN_oneL 15 (by kernel_rfl) ?_
        simp only [List.take_succ_cons, List.take_zero, List.drop_succ_cons, List.drop_zero]
        go_wp2_with fail
        refine And.intro (fun _ => ⟨d0, trivial⟩) ?_
        refine anyN_oneL 16 (by kernel_rfl) ?_
        simp only [List.take_succ_cons, List.take_zero, List.drop_succ_cons, List.drop_zero]
        go_wp2_with fail
        refine And.intro (fun _ => ⟨d0, trivial⟩) ?_
        refine ⟨by kernel_rfl, ?_⟩
        go_wp2_with fail
        go_ret
        exact ⟨rfl, F7.out.clean.below⟩
end Go.Proofs.Ytgmlhpkhecbkoaa
