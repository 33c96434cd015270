/-
  counterpanelaw03.AxisPlays, walked: it returns true. Condition: the ids and the deeds can be read.
-/
import Derived.Test.YtgmlhpkhecbkoaaN6
import Derived.Test.YtgmlhpkhecbkoaaQ4
namespace Go.Proofs.Ytgmlhpkhecbkoaa
open Go.RowKit

/-- What the answers of an axis are, told for a walk. -/
theorem at_tells (L : List Id) (pl : Int) : ∃ (z1 z2 : Int) (nn lt ok : Bool), atR L pl = .tuple #[.agg #[.int .i64 z1, .int .i64 z2], .bool ok] ∧ decide (0 ≤ pl) = nn ∧ decide (pl < (L.length : Int)) = lt ∧
    ((nn = true ∧ lt = true ∧ ok = true ∧ ∃ k : Nat, pl = k ∧ L[k]? = some (z1, z2)) ∨ (z1 = 0 ∧ z2 = 0 ∧ ok = false ∧ ((nn = false ∧ lt = true) ∨ (nn = true ∧ lt = false)))) := by
  by_cases h0 : 0 ≤ pl
  · obtain ⟨k, rfl⟩ := Int.eq_ofNat_of_zero_le h0
    by_cases hk : k < L.length
    · refine ⟨L[k].1, L[k].2, true, true, true, ?_, by simp, by simp; omega, .inl ⟨rfl, rfl, rfl, k, rfl, List.getElem?_eq_getElem hk⟩⟩
      exact atR_some rfl (List.getElem?_eq_getElem hk)
    · refine ⟨0, 0, true, false, false, ?_, by simp, by simp; omega, .inr ⟨rfl, rfl, rfl, .inr ⟨rfl, rfl⟩⟩⟩
      unfold atR
      rw [if_pos h0, Int.toNat_natCast, List.getElem?_eq_none (by omega)]
  · refine ⟨0, 0, false, true, false, ?_, by simp; omega, by simp; omega, .inr ⟨rfl, rfl, rfl, .inl ⟨rfl, rfl⟩⟩⟩
    unfold atR
    rw [if_neg h0]
theorem aliveOf_has (ids : List Id) (live : List Bool) (i : Nat) (z : Id) (h1 : ids[i]? = some z) (h2 : live[i]? = some true) : z ∈ aliveOf ids live := by
  induction ids generalizing live i with
  | nil => simp at h1
  | cons x ids ih =>
    match live, h2 with
    | [], h2 => simp at h2
    | l :: live, h2 =>
      cases i with
      | zero =>
        have e1 : x = z := by simpa using h1
        have e2 : l = true := by simpa using h2
        subst e1 e2
        simp [aliveOf]
      | succ i =>
        have := ih live i (by simpa using h1) (by simpa using h2)
        simp only [aliveOf]
        split
        · exact List.mem_cons_of_mem _ this
        · exact this
theorem place_tells (ids : List Id) (live : List Bool) (h : live.length = ids.length) (hd : ids.Nodup) (z : Id) : ∃ (pv wv : Int) (is : Bool), placeR ids live z = .tuple #[.int .i64 pv, .bool is] ∧ idxI z (aliveOf ids live) = wv ∧ decide (0 ≤ wv) = is ∧ ((is = true ∧ pv = wv) ∨ (is = false ∧ pv = 0)) := by
  by_cases hz : z ∈ aliveOf ids live
  · have hi := List.idxOf_lt_length_iff.2 hz
    have hg : (aliveOf ids live)[(aliveOf ids live).idxOf z]? = some z := by rw [List.getElem?_eq_getElem hi, List.getElem_idxOf]
    refine ⟨_, _, true, place_alive ids live h hd _ z hg, by unfold idxI; rw [if_pos hz], by simp, .inl ⟨rfl, rfl⟩⟩
  · refine ⟨0, -1, false, ?_, by unfold idxI; rw [if_neg hz], by decide, .inr ⟨rfl, rfl⟩⟩
    unfold placeR
    rw [if_neg]
    rintro ⟨h1, h2⟩
    have hi := List.idxOf_lt_length_iff.2 h1
    rw [List.getD_eq_getElem?_getD, List.getElem?_eq_getElem (by omega)] at h2
    have hl : live[ids.idxOf z]? = some true := by rw [List.getElem?_eq_getElem (by omega)]; simpa using h2
    refine hz (aliveOf_has ids live (ids.idxOf z) z (by rw [List.getElem?_eq_getElem hi, List.getElem_idxOf]) hl)

set_option maxRecDepth 100000 in
set_option maxHeartbeats 8000000 in
theorem plays_few (A D : Option Addr) (n c m d : Nat) (ids0 : List Id) (ds : List Deed) (x y pl : Int) (w : World) (hR : IdsR w (fun _ => 0) 0 A ids0) (hn : ids0.length = n) (hD : ManyR deedCells 5 w (fun _ => 0) 0 D ds) (hm : ds.length = m) (h100 : n ≤ 100) (h60 : m ≤ 100) :
    Calls Try.prog 11 #[.slice A n c, .slice D m d, .agg #[.int .i64 x, .int .i64 y], .int .i64 pl] w fun e w' => e = .returned (.bool true) ∧ Below w.heap.size w w' := by
  have HR := Lib.hid hR
  have Hn := Lib.hid hn
  have HD := Lib.hid hD
  have Hm := Lib.hid hm
  clear hR hn hD hm
  go_enter Try.func11, Try.ntmps11
  go_wp2_with fail
  have k0 := ((Clean.start w).alloc (.cells #[.int .i64 x, .int .i64 y] 24))
  have x0 := (Box.new (Clean.start w).fresh 24 #[.int .i64 x, .int .i64 y])
  have r0 := HR.out.keep (w' := (w.alloc (.cells #[.int .i64 x, .int .i64 y] 24))) (by simp) ((Same.refl 0 (fun _ => 0) w).trans (by exact Nat.le_refl _) (Same.alloc (.cells #[.int .i64 x, .int .i64 y] 24)))
  have d0 := HD.out.keep (w' := (w.alloc (.cells #[.int .i64 x, .int .i64 y] 24))) (by simp) ((Same.refl 0 (fun _ => 0) w).trans (by exact Nat.le_refl _) (Same.alloc (.cells #[.int .i64 x, .int .i64 y] 24)))
  refine (awake_c _).mono ?_
  rintro e w1 ⟨rfl, hB⟩
  have K1 := Lib.hid (k0.next hB)
  have X01 := Lib.hid (x0.next hB)
  have R1 := Lib.hid (r0.keep hB.size (Same.below hB))
  have D1 := Lib.hid (d0.keep hB.size (Same.below hB))
  clear k0 x0 r0 d0 hB HR HD
  go_wp2_with fail
  refine (new_c A n c ids0 w1 (fun _ => 0) 0 1 R1.out Hn.out (by simp only [maxLen]; omega) (by decide)).mono ?_
  rintro e w2 ⟨own2, qa, rfl, tr2, hqa, a2⟩
  have K2 := Lib.hid (K1.out.tr tr2 (by decide))
  have X02 := Lib.hid (X01.out.tr tr2 (by decide))
  have R2 := Lib.hid (R1.out.keep tr2.size (tr2.toSame (by decide)))
  have D2 := Lib.hid (D1.out.keep tr2.size (tr2.toSame (by decide)))
  have A2 := Lib.hid a2
  clear tr2 a2 hqa K1 X01 R1 D1
  go_wp2_with fail
  refine (rnew_c A n c ids0 w2 own2 0 2 R2.out Hn.out (by simp only [maxLen]; omega) (by decide)).mono ?_
  rintro e w3 ⟨own3, qx, rfl, tr3, hqx, x3⟩
  have S3 : Hid (SE w own3 qa qx (newL ids0) (List.replicate (newL ids0).length true) (newL ids0) (List.replicate (newL ids0).length true) D ds [(x, y)] w3) :=
    ⟨K2.out.tr tr3 (by decide), A2.out.other tr3 (by decide), x3, D2.out.keep tr3.size (tr3.toSame (by decide)), fun k z hz => by
      match k, hz with
      | 0, hz => cases hz; exact X02.out.tr tr3 (by decide)⟩
  clear tr3 x3 hqx K2 X02 R2 D2 A2
  generalize newL ids0 = L0 at *
  generalize List.replicate L0.length true = la0 at *
  go_wp2_with fail
  go_loopw [11] (fun i wr => ∃ (k : Nat) (ow : Tags) (ids : List Id) (live : List Bool), k ≤ m ∧ i = .int .i64 k ∧ SE w ow qa qx ids live ids live D ds [(x, y)] wr) (fun i _ => m - (intOf i).toNat)
  case atStart => exact ⟨0, own3, L0, la0, Nat.zero_le _, rfl, S3.out⟩
  case round =>
    clear S3
    obtain ⟨k, ow, ids, live, hk, rfl, s0⟩ := hrel
    have S0 := Lib.hid s0
    clear s0
    by_cases hlt : k < m
    · obtain ⟨b, off, dd, rfl, g1, g2, g3, g4, g5⟩ := S0.out.deed (k := k) (by rw [Hm.out]; exact hlt)
      have hkm : (k : Int) < (m : Int) := by omega
      have hk0 : (0 : Int) ≤ (k : Int) := by omega
      have hdo := Lib.hid (do_c wr ow 1 2 qa qx ids live dd (by decide) (by decide) (by decide) S0.out.clean.fresh S0.out.a S0.out.x)
      unfold deedv at hdo
      generalize doI ids dd = ids' at *
      generalize doL ids live dd = live' at *
      go_wp2_with fail
      refine hdo.out.mono ?_
      rintro e w1 hq
      obtain ⟨rfl, ow1, s1⟩ := S0.out.done hq
      have S1 := Lib.hid s1
      clear s1 hq S0 g1 g2 g3 g4 g5 hdo
      go_wp2_with fail
      go_roundw
      case rel => exact ⟨k + 1, ow1, ids', live', by omega, by go_num, S1.out⟩
      case measure => simp [intOf]; omega
    · have hkk : k = m := by omega
      subst hkk
      have hle := S0.out.x.le
      have hax := Lib.hid (show live.length = ids.length ∧ ids.Nodup ∧ (0, 0) ∉ ids from ⟨S0.out.a.len, S0.out.a.nodup, S0.out.a.nz⟩)
      have hll := Nat.le_trans (length_aliveOf ids live) hle
      obtain ⟨L, hL⟩ : ∃ L, aliveOf ids live = L := ⟨_, rfl⟩
      obtain ⟨z1, z2, nn, lt, ok, t1, t2, t3, t4⟩ := at_tells L pl
      obtain ⟨pv, wv, is, u1, u2, u3, u4⟩ := place_tells ids live hax.out.1 hax.out.2.1 (x, y)
      rw [hL] at hll u2
      have HL := Lib.hid hL
      have T1 := Lib.hid t1
      have T2 := Lib.hid t2
      have T3 := Lib.hid t3
      have T4 := Lib.hid t4
      have U1 := Lib.hid u1
      have U2 := Lib.hid u2
      have U3 := Lib.hid u3
      have U4 := Lib.hid u4
      clear hL t1 t2 t3 t4 u1 u2 u3 u4
      go_wp2_with fail
      refine (rorder_c wr ow 2 3 qx ids live S0.out.x (by decide)).mono ?_
      rintro e w1 ⟨v, ow1, rfl, tr1, row1⟩
      rw [HL.out] at row1
      obtain ⟨AL, cL, hv, _⟩ := row1.form
      subst hv
      have S1 := Lib.hid (S0.out.tr tr1 (by decide) (by decide) (by decide))
      have R1 := Lib.hid row1
      clear tr1 row1 S0
      go_wp2_with fail
      refine (at_c w1 ow1 1 qa ids live pl S1.out.a S1.out.clean.fresh (by decide)).mono ?_
      rintro e w2 ⟨rfl, ow2, tr2, a2⟩
      rw [HL.out, T1.out]
      have S2 := Lib.hid ((S1.out.trA tr2 a2).alloc (.cells #[.int .i64 z1, .int .i64 z2] 24))
      have R2 := Lib.hid ((R1.out.keep (tr2.toSame (by decide))).keep (Same.alloc (.cells #[.int .i64 z1, .int .i64 z2] 24)))
      have X2 := Lib.hid (Box.new (S1.out.trA tr2 a2).clean.fresh 24 #[.int .i64 z1, .int .i64 z2])
      obtain ⟨i1, i2⟩ := (S1.out.trA tr2 a2).box 0 (x, y) rfl
      simp only [Nat.add_zero] at i1 i2
      have hwl := World.block_lt_of_cell? w2 _ i1
      dsimp only at hwl
      clear tr2 a2 S1 R1
      go_wp2_with fail
      generalize hV : w2.alloc (.cells #[.int .i64 z1, .int .i64 z2] 24) = V2 at *
      clear hV i1 i2 hwl
      generalize w2.heap.size = X at *
      refine (place_c V2 ow2 1 qa ids live x y S2.out.a S2.out.clean.fresh (by decide)).mono ?_
      rintro e w3 ⟨rfl, ow3, tr3, a3⟩
      rw [U1.out]
      have S3 := Lib.hid (S2.out.trA tr3 a3)
      have R3 := Lib.hid (R2.out.keep (tr3.toSame (by decide)))
      have X3 := Lib.hid (X2.out.tr tr3 (by decide))
      clear tr3 a3 S2 R2 X2
      obtain ⟨i1, i2⟩ := S3.out.box 0 (x, y) rfl
      simp only [Nat.add_zero] at i1 i2
      go_wp2_with fail
      refine (rplace_c w3 ow3 2 4 qx ids live x y S3.out.x (by decide) S3.out.clean.fresh (by decide)).mono ?_
      rintro e w4 ⟨rfl, ow4, tr4⟩
      rw [HL.out, U2.out]
      have S4 := Lib.hid (S3.out.tr tr4 (by decide) (by decide) (by decide))
      have R4 := Lib.hid (R3.out.keep (tr4.toSame (by decide)))
      have X4 := Lib.hid (X3.out.tr tr4 (by decide))
      clear tr4 S3 R3 X3 i1 i2
      obtain ⟨i1, i2⟩ := S4.out.box 0 (x, y) rfl
      simp only [Nat.add_zero] at i1 i2
      have C4 := Lib.hid (Kept.cons (own := ow4) (T := [0]) i1 (by show ow4 w.heap.size ∈ _; have := (S4.out.b 0 (x, y) rfl).zero; rw [Nat.add_zero] at this; rw [this]; simp) (Kept.cons i2 (by show ow4 w.heap.size ∈ _; have := (S4.out.b 0 (x, y) rfl).zero; rw [Nat.add_zero] at this; rw [this]; simp) Kept.nil))
      clear i1 i2
      go_wp2_with fail
      refine region_free _ [0, 1] 37 (by kernel_rfl) (by kernel_rfl) (by kernel_rfl) (by kernel_rfl) (by kernel_rfl) (fun _ _ _ _ _ h => h) C4.out.drew.1 ?_
      intro hne hu
      simp only [AllCells] at hu
      simp only [pick, List.take_succ_cons, List.take_zero, List.drop_succ_cons, List.drop_zero, List.cons_append, List.nil_append]
      repeat (go_big_quiet_step (fail))
      refine wpQuiet_nil ?_
      clear hne hu
      refine anyN_oneL 2 (by kernel_rfl) ?_
      simp only [List.take_succ_cons, List.take_zero, List.drop_succ_cons, List.drop_zero]
      go_wp2_with fail
      have S5 := Lib.hid S4.out.drew
      have R5 := Lib.hid (R4.out.keep Same.drew)
      have X5 := Lib.hid (X4.out.next ((Below.refl _ _).drew))
      have C5 := Lib.hid C4.out.drew
      clear S4 R4 X4 C4
      generalize w4.drew = W5 at *
      refine (same41_c W5 ow4 ow4 1 2 qa qx ids live S5.out.a S5.out.x).mono ?_
      rintro e w6 ⟨rfl, hB6⟩
      have S6 := Lib.hid (S5.out.next hB6)
      have R6 := Lib.hid (R5.out.keep (Same.below hB6))
      have X6 := Lib.hid (X5.out.next hB6)
      have C6 := Lib.hid (C5.out.next hB6)
      clear S5 R5 X5 C5 hB6
      go_wp2_with fail
      refine And.intro (fun _ => C6.out.1) ?_
      refine anyN_more [3, 4, 5, 7, 8] 31 (by kernel_rfl) (by kernel_rfl) (by kernel_rfl) (by kernel_rfl) (fun _ _ _ _ _ h => h) C6.out.1 ?_
      intro hne hu
      simp only [AllCells] at hu
      simp only [pick, List.take_succ_cons, List.take_zero, List.drop_succ_cons, List.drop_zero, List.cons_append, List.nil_append]
      repeat (go_big_quiet_step (fail))
      refine wpQuiet_nil ?_
      clear hne hu
      refine anyN_oneL 6 (by kernel_rfl) ?_
      simp only [List.take_succ_cons, List.take_zero, List.drop_succ_cons, List.drop_zero]
      go_wp2_with fail
      refine (len_c w6 ow4 1 qa ids live S6.out.a).mono ?_
      rintro e w7 ⟨rfl, ow7, tr7, a7, _⟩
      rw [HL.out]
      have S7 := Lib.hid (S6.out.trA tr7 a7)
      have R7 := Lib.hid (R6.out.keep (tr7.toSame (by decide)))
      have X7 := Lib.hid (X6.out.tr tr7 (by decide))
      have C7 := Lib.hid (C6.out.tr tr7 (by decide))
      clear tr7 a7 S6 R6 X6 C6
      have hne1 : ((L.length : Int) != (L.length : Int)) = false := by simp
      go_wp2_with fail
      refine And.intro (fun _ => C7.out.1) ?_
      refine anyN_more [9, 10, 11, 12, 13, 15, 16] 23 (by kernel_rfl) (by kernel_rfl) (by kernel_rfl) (by kernel_rfl) (fun _ _ _ _ _ h => h) C7.out.1 ?_
      intro hne hu
      simp only [AllCells] at hu
      simp only [pick, List.take_succ_cons, List.take_zero, List.drop_succ_cons, List.drop_zero, List.cons_append, List.nil_append]
      repeat (go_big_quiet_step (fail))
      refine wpQuiet_nil ?_
      clear hne hu
      refine anyN_oneL 14 (by kernel_rfl) ?_
      simp only [List.take_succ_cons, List.take_zero, List.drop_succ_cons, List.drop_zero]
      go_wp2_with fail
      refine (has_c w7 ow7 1 qa ids live x y S7.out.a).mono ?_
      rintro e w8 ⟨rfl, hB8⟩
      have S8 := Lib.hid (S7.out.next hB8)
      have R8 := Lib.hid (R7.out.keep (Same.below hB8))
      have X8 := Lib.hid (X7.out.next hB8)
      have C8 := Lib.hid (C7.out.next hB8)
      clear S7 R7 X7 C7 hB8
      go_wp2_with fail
      refine And.intro (fun _ => C8.out.1) ?_
      refine anyN_oneL 17 (by kernel_rfl) ?_
      simp only [List.take_succ_cons, List.take_zero, List.drop_succ_cons, List.drop_zero]
      go_wp2_with fail
      refine (rfind_c w8 ow7 2 qx ids live x y S8.out.x).mono ?_
      rintro e w9 ⟨rfl, hB9⟩
      have S9 := Lib.hid (S8.out.next hB9)
      have R9 := Lib.hid (R8.out.keep (Same.below hB9))
      have X9 := Lib.hid (X8.out.next hB9)
      have C9 := Lib.hid (C8.out.next hB9)
      clear S8 R8 X8 C8 hB9
      obtain ⟨hasv, fv, hv1, hv2, hv3⟩ : ∃ (hasv : Bool) (fv : Int), decide ((x, y) ∈ ids) = hasv ∧ idxI (x, y) ids = fv ∧ decide (0 ≤ fv) = hasv := by
        by_cases hm : (x, y) ∈ ids
        · exact ⟨true, _, by simp [hm], rfl, by unfold idxI; rw [if_pos hm]; simp⟩
        · exact ⟨false, _, by simp [hm], rfl, by unfold idxI; rw [if_neg hm]; decide⟩
      rw [hv1, hv2]
      clear hv1 hv2
      go_wp2_with fail
      refine And.intro (fun _ => C9.out.1) ?_
      have e0 := X9.out.blk.cell 0
      have e1 := X9.out.blk.cell 1
      simp only [List.getElem?_toArray, List.getElem?_cons_zero, List.getElem?_cons_succ] at e0 e1
      have hd2 := T2.out
      have hd3 := T3.out
      have hd4 := U3.out
      rcases U4.out with ⟨rfl, hpw⟩ | ⟨rfl, hpw⟩
      · subst hpw
        rcases T4.out with ⟨rfl, rfl, rfl, k2, rfl, hg⟩ | ⟨rfl, rfl, rfl, ⟨rfl, rfl⟩ | ⟨rfl, rfl⟩⟩
        · obtain ⟨hk2, hge⟩ := List.getElem?_eq_some_iff.1 hg
          obtain ⟨bL, oL, hA, hbt, _, hc⟩ := R9.out.toIdsR.2 (fun e => by rw [e] at hk2; simp at hk2)
          subst hA
          obtain ⟨g1, g2⟩ := hc k2 hk2
          rw [hge] at g1 g2
          dsimp only at g1 g2
          have hk0 : (0 : Int) ≤ (k2 : Int) := by omega
          have hkl : (k2 : Int) < (L.length : Int) := by omega
          have hkd : decide (k2 < L.length) = true := by simp; omega
          have hzz : ideq z1 z2 z1 z2 = true := ideq_true.2 ⟨rfl, rfl⟩
          have D9 := Lib.hid (Kept.cons (own := ow7) (T := [0, 3]) e0 (by show ow7 X ∈ _; rw [X9.out.zero]; simp) (Kept.cons e1 (by show ow7 X ∈ _; rw [X9.out.zero]; simp) (Kept.cons g1 (by show ow7 bL ∈ _; rw [hbt]; simp) (Kept.cons g2 (by show ow7 bL ∈ _; rw [hbt]; simp) Kept.nil))))
          clear hge hc hg hd3 hd2
          have hww : (pv == pv) = true := by simp
          cases hasv
          · refine anyN_more [18, 19, 20, 21, 22, 23, 24, 25, 26, 27, 28, 29, 30, 31, 32, 33, 34, 35, 36, 37, 38] 0 (by kernel_rfl) (by kernel_rfl) (by kernel_rfl) (by kernel_rfl) (fun _ _ _ _ _ h => h) C9.out.1 ?_
            intro hne hu
            simp only [AllCells] at hu
            simp only [pick, List.take_succ_cons, List.take_zero, List.drop_succ_cons, List.drop_zero, List.cons_append, List.nil_append]
            repeat (go_big_quiet_step (fail))
            refine wpQuiet_nil ?_
            clear hne hu
            refine ⟨by kernel_rfl, ?_⟩
            go_wp2_with fail
            refine region_free _ [0, 1, 2, 3, 4, 5, 6, 7, 8, 9, 10, 11, 12, 13, 14, 15, 16, 17, 18, 19, 20, 21, 22, 23, 24, 25, 26, 27, 28, 29, 30, 31, 32, 33, 34] 0 (by kernel_rfl) (by kernel_rfl) (by kernel_rfl) (by kernel_rfl) (by kernel_rfl) (fun _ _ _ _ _ h => h) D9.out.drew.1 ?_
            intro hne hu
            simp only [AllCells] at hu
            simp only [pick, List.take_succ_cons, List.take_zero, List.drop_succ_cons, List.drop_zero, List.cons_append, List.nil_append]
            repeat (go_big_quiet_step (fail))
            refine wpQuiet_nil ?_
            clear hne hu
            refine ⟨by kernel_rfl, ?_⟩
            go_wp2_with fail
            go_ret
            exact ⟨rfl, (S9.out.drewN _).clean.below⟩
          · refine anyN_more [18, 19, 20, 21, 22, 23, 24, 25, 26, 27, 28, 29, 30, 31, 32, 33, 34, 35, 36, 37, 38] 0 (by kernel_rfl) (by kernel_rfl) (by kernel_rfl) (by kernel_rfl) (fun _ _ _ _ _ h => h) C9.out.1 ?_
            intro hne hu
            simp only [AllCells] at hu
            simp only [pick, List.take_succ_cons, List.take_zero, List.drop_succ_cons, List.drop_zero, List.cons_append, List.nil_append]
            repeat (go_big_quiet_step (fail))
            refine wpQuiet_nil ?_
            clear hne hu
            refine ⟨by kernel_rfl, ?_⟩
            go_wp2_with fail
            refine region_free _ [0, 1, 2, 3, 4, 5, 6, 7, 8, 9, 10, 11, 12, 13, 14, 15, 16, 17, 18, 19, 20, 21, 22, 23, 24, 25, 26, 27, 28, 29, 30, 31, 32, 33, 34] 0 (by kernel_rfl) (by kernel_rfl) (by kernel_rfl) (by kernel_rfl) (by kernel_rfl) (fun _ _ _ _ _ h => h) D9.out.drew.1 ?_
            intro hne hu
            simp only [AllCells] at hu
            simp only [pick, List.take_succ_cons, List.take_zero, List.drop_succ_cons, List.drop_zero, List.cons_append, List.nil_append]
            repeat (go_big_quiet_step (fail))
            refine wpQuiet_nil ?_
            clear hne hu
            refine ⟨by kernel_rfl, ?_⟩
            go_wp2_with fail
            go_ret
            exact ⟨rfl, (S9.out.drewN _).clean.below⟩
        · have hzz : ideq 0 0 0 0 = true := by decide
          have D9 := Lib.hid (Kept.cons (own := ow7) (T := [0, 3]) e0 (by show ow7 X ∈ _; rw [X9.out.zero]; simp) (Kept.cons e1 (by show ow7 X ∈ _; rw [X9.out.zero]; simp) Kept.nil))
          have hww : (pv == pv) = true := by simp
          cases hasv
          · refine anyN_more [18, 19, 20, 21, 22, 23, 24, 25, 26, 27, 28, 29, 30, 31, 32, 33, 34, 35, 36, 37, 38] 0 (by kernel_rfl) (by kernel_rfl) (by kernel_rfl) (by kernel_rfl) (fun _ _ _ _ _ h => h) C9.out.1 ?_
            intro hne hu
            simp only [AllCells] at hu
            simp only [pick, List.take_succ_cons, List.take_zero, List.drop_succ_cons, List.drop_zero, List.cons_append, List.nil_append]
            repeat (go_big_quiet_step (fail))
            refine wpQuiet_nil ?_
            clear hne hu
            refine ⟨by kernel_rfl, ?_⟩
            go_wp2_with fail
            refine region_free _ [0, 1, 2, 3, 4, 5, 6, 7, 8, 9, 10, 11, 12, 13, 14, 15, 16, 17, 18, 19, 20, 21, 22, 23, 24, 25, 26, 27, 28, 29, 30, 31, 32, 33, 34] 0 (by kernel_rfl) (by kernel_rfl) (by kernel_rfl) (by kernel_rfl) (by kernel_rfl) (fun _ _ _ _ _ h => h) D9.out.drew.1 ?_
            intro hne hu
            simp only [AllCells] at hu
            simp only [pick, List.take_succ_cons, List.take_zero, List.drop_succ_cons, List.drop_zero, List.cons_append, List.nil_append]
            repeat (go_big_quiet_step (fail))
            refine wpQuiet_nil ?_
            clear hne hu
            refine ⟨by kernel_rfl, ?_⟩
            go_wp2_with fail
            go_ret
            exact ⟨rfl, (S9.out.drewN _).clean.below⟩
          · refine anyN_more [18, 19, 20, 21, 22, 23, 24, 25, 26, 27, 28, 29, 30, 31, 32, 33, 34, 35, 36, 37, 38] 0 (by kernel_rfl) (by kernel_rfl) (by kernel_rfl) (by kernel_rfl) (fun _ _ _ _ _ h => h) C9.out.1 ?_
            intro hne hu
            simp only [AllCells] at hu
            simp only [pick, List.take_succ_cons, List.take_zero, List.drop_succ_cons, List.drop_zero, List.cons_append, List.nil_append]
            repeat (go_big_quiet_step (fail))
            refine wpQuiet_nil ?_
            clear hne hu
            refine ⟨by kernel_rfl, ?_⟩
            go_wp2_with fail
            refine region_free _ [0, 1, 2, 3, 4, 5, 6, 7, 8, 9, 10, 11, 12, 13, 14, 15, 16, 17, 18, 19, 20, 21, 22, 23, 24, 25, 26, 27, 28, 29, 30, 31, 32, 33, 34] 0 (by kernel_rfl) (by kernel_rfl) (by kernel_rfl) (by kernel_rfl) (by kernel_rfl) (fun _ _ _ _ _ h => h) D9.out.drew.1 ?_
            intro hne hu
            simp only [AllCells] at hu
            simp only [pick, List.take_succ_cons, List.take_zero, List.drop_succ_cons, List.drop_zero, List.cons_append, List.nil_append]
            repeat (go_big_quiet_step (fail))
            refine wpQuiet_nil ?_
            clear hne hu
            refine ⟨by kernel_rfl, ?_⟩
            go_wp2_with fail
            go_ret
            exact ⟨rfl, (S9.out.drewN _).clean.below⟩
        · have hzz : ideq 0 0 0 0 = true := by decide
          have D9 := Lib.hid (Kept.cons (own := ow7) (T := [0, 3]) e0 (by show ow7 X ∈ _; rw [X9.out.zero]; simp) (Kept.cons e1 (by show ow7 X ∈ _; rw [X9.out.zero]; simp) Kept.nil))
          have hww : (pv == pv) = true := by simp
          cases hasv
          · refine anyN_more [18, 19, 20, 21, 22, 23, 24, 25, 26, 27, 28, 29, 30, 31, 32, 33, 34, 35, 36, 37, 38] 0 (by kernel_rfl) (by kernel_rfl) (by kernel_rfl) (by kernel_rfl) (fun _ _ _ _ _ h => h) C9.out.1 ?_
            intro hne hu
            simp only [AllCells] at hu
            simp only [pick, List.take_succ_cons, List.take_zero, List.drop_succ_cons, List.drop_zero, List.cons_append, List.nil_append]
            repeat (go_big_quiet_step (fail))
            refine wpQuiet_nil ?_
            clear hne hu
            refine ⟨by kernel_rfl, ?_⟩
            go_wp2_with fail
            refine region_free _ [0, 1, 2, 3, 4, 5, 6, 7, 8, 9, 10, 11, 12, 13, 14, 15, 16, 17, 18, 19, 20, 21, 22, 23, 24, 25, 26, 27, 28, 29, 30, 31, 32, 33, 34] 0 (by kernel_rfl) (by kernel_rfl) (by kernel_rfl) (by kernel_rfl) (by kernel_rfl) (fun _ _ _ _ _ h => h) D9.out.drew.1 ?_
            intro hne hu
            simp only [AllCells] at hu
            simp only [pick, List.take_succ_cons, List.take_zero, List.drop_succ_cons, List.drop_zero, List.cons_append, List.nil_append]
            repeat (go_big_quiet_step (fail))
            refine wpQuiet_nil ?_
            clear hne hu
            refine ⟨by kernel_rfl, ?_⟩
            go_wp2_with fail
            go_ret
            exact ⟨rfl, (S9.out.drewN _).clean.below⟩
          · refine anyN_more [18, 19, 20, 21, 22, 23, 24, 25, 26, 27, 28, 29, 30, 31, 32, 33, 34, 35, 36, 37, 38] 0 (by kernel_rfl) (by kernel_rfl) (by kernel_rfl) (by kernel_rfl) (fun _ _ _ _ _ h => h) C9.out.1 ?_
            intro hne hu
            simp only [AllCells] at hu
            simp only [pick, List.take_succ_cons, List.take_zero, List.drop_succ_cons, List.drop_zero, List.cons_append, List.nil_append]
            repeat (go_big_quiet_step (fail))
            refine wpQuiet_nil ?_
            clear hne hu
            refine ⟨by kernel_rfl, ?_⟩
            go_wp2_with fail
            refine region_free _ [0, 1, 2, 3, 4, 5, 6, 7, 8, 9, 10, 11, 12, 13, 14, 15, 16, 17, 18, 19, 20, 21, 22, 23, 24, 25, 26, 27, 28, 29, 30, 31, 32, 33, 34] 0 (by kernel_rfl) (by kernel_rfl) (by kernel_rfl) (by kernel_rfl) (by kernel_rfl) (fun _ _ _ _ _ h => h) D9.out.drew.1 ?_
            intro hne hu
            simp only [AllCells] at hu
            simp only [pick, List.take_succ_cons, List.take_zero, List.drop_succ_cons, List.drop_zero, List.cons_append, List.nil_append]
            repeat (go_big_quiet_step (fail))
            refine wpQuiet_nil ?_
            clear hne hu
            refine ⟨by kernel_rfl, ?_⟩
            go_wp2_with fail
            go_ret
            exact ⟨rfl, (S9.out.drewN _).clean.below⟩
      · subst hpw
        rcases T4.out with ⟨rfl, rfl, rfl, k2, rfl, hg⟩ | ⟨rfl, rfl, rfl, ⟨rfl, rfl⟩ | ⟨rfl, rfl⟩⟩
        · obtain ⟨hk2, hge⟩ := List.getElem?_eq_some_iff.1 hg
          obtain ⟨bL, oL, hA, hbt, _, hc⟩ := R9.out.toIdsR.2 (fun e => by rw [e] at hk2; simp at hk2)
          subst hA
          obtain ⟨g1, g2⟩ := hc k2 hk2
          rw [hge] at g1 g2
          dsimp only at g1 g2
          have hk0 : (0 : Int) ≤ (k2 : Int) := by omega
          have hkl : (k2 : Int) < (L.length : Int) := by omega
          have hkd : decide (k2 < L.length) = true := by simp; omega
          have hzz : ideq z1 z2 z1 z2 = true := ideq_true.2 ⟨rfl, rfl⟩
          have D9 := Lib.hid (Kept.cons (own := ow7) (T := [0, 3]) e0 (by show ow7 X ∈ _; rw [X9.out.zero]; simp) (Kept.cons e1 (by show ow7 X ∈ _; rw [X9.out.zero]; simp) (Kept.cons g1 (by show ow7 bL ∈ _; rw [hbt]; simp) (Kept.cons g2 (by show ow7 bL ∈ _; rw [hbt]; simp) Kept.nil))))
          clear hge hc hg hd3 hd2
          cases hasv
          · refine anyN_more [18, 19, 20, 21, 22, 23, 24, 25, 26, 27, 28, 29, 30, 31, 32, 33, 34, 35, 36, 37, 38] 0 (by kernel_rfl) (by kernel_rfl) (by kernel_rfl) (by kernel_rfl) (fun _ _ _ _ _ h => h) C9.out.1 ?_
            intro hne hu
            simp only [AllCells] at hu
            simp only [pick, List.take_succ_cons, List.take_zero, List.drop_succ_cons, List.drop_zero, List.cons_append, List.nil_append]
            repeat (go_big_quiet_step (fail))
            refine wpQuiet_nil ?_
            clear hne hu
            refine ⟨by kernel_rfl, ?_⟩
            go_wp2_with fail
            refine region_free _ [0, 1, 2, 3, 4, 5, 6, 7, 8, 9, 10, 11, 12, 13, 14, 15, 16, 17, 18, 19, 20, 21, 22, 23, 24, 25, 26, 27, 28, 29, 30, 31, 32, 33, 34] 0 (by kernel_rfl) (by kernel_rfl) (by kernel_rfl) (by kernel_rfl) (by kernel_rfl) (fun _ _ _ _ _ h => h) D9.out.drew.1 ?_
            intro hne hu
            simp only [AllCells] at hu
            simp only [pick, List.take_succ_cons, List.take_zero, List.drop_succ_cons, List.drop_zero, List.cons_append, List.nil_append]
            repeat (go_big_quiet_step (fail))
            refine wpQuiet_nil ?_
            clear hne hu
            refine ⟨by kernel_rfl, ?_⟩
            go_wp2_with fail
            go_ret
            exact ⟨rfl, (S9.out.drewN _).clean.below⟩
          · refine anyN_more [18, 19, 20, 21, 22, 23, 24, 25, 26, 27, 28, 29, 30, 31, 32, 33, 34, 35, 36, 37, 38] 0 (by kernel_rfl) (by kernel_rfl) (by kernel_rfl) (by kernel_rfl) (fun _ _ _ _ _ h => h) C9.out.1 ?_
            intro hne hu
            simp only [AllCells] at hu
            simp only [pick, List.take_succ_cons, List.take_zero, List.drop_succ_cons, List.drop_zero, List.cons_append, List.nil_append]
            repeat (go_big_quiet_step (fail))
            refine wpQuiet_nil ?_
            clear hne hu
            refine ⟨by kernel_rfl, ?_⟩
            go_wp2_with fail
            refine region_free _ [0, 1, 2, 3, 4, 5, 6, 7, 8, 9, 10, 11, 12, 13, 14, 15, 16, 17, 18, 19, 20, 21, 22, 23, 24, 25, 26, 27, 28, 29, 30, 31, 32, 33, 34] 0 (by kernel_rfl) (by kernel_rfl) (by kernel_rfl) (by kernel_rfl) (by kernel_rfl) (fun _ _ _ _ _ h => h) D9.out.drew.1 ?_
            intro hne hu
            simp only [AllCells] at hu
            simp only [pick, List.take_succ_cons, List.take_zero, List.drop_succ_cons, List.drop_zero, List.cons_append, List.nil_append]
            repeat (go_big_quiet_step (fail))
            refine wpQuiet_nil ?_
            clear hne hu
            refine ⟨by kernel_rfl, ?_⟩
            go_wp2_with fail
            go_ret
            exact ⟨rfl, (S9.out.drewN _).clean.below⟩
        · have hzz : ideq 0 0 0 0 = true := by decide
          have D9 := Lib.hid (Kept.cons (own := ow7) (T := [0, 3]) e0 (by show ow7 X ∈ _; rw [X9.out.zero]; simp) (Kept.cons e1 (by show ow7 X ∈ _; rw [X9.out.zero]; simp) Kept.nil))
          cases hasv
          · refine anyN_more [18, 19, 20, 21, 22, 23, 24, 25, 26, 27, 28, 29, 30, 31, 32, 33, 34, 35, 36, 37, 38] 0 (by kernel_rfl) (by kernel_rfl) (by kernel_rfl) (by kernel_rfl) (fun _ _ _ _ _ h => h) C9.out.1 ?_
            intro hne hu
            simp only [AllCells] at hu
            simp only [pick, List.take_succ_cons, List.take_zero, List.drop_succ_cons, List.drop_zero, List.cons_append, List.nil_append]
            repeat (go_big_quiet_step (fail))
            refine wpQuiet_nil ?_
            clear hne hu
            refine ⟨by kernel_rfl, ?_⟩
            go_wp2_with fail
            refine region_free _ [0, 1, 2, 3, 4, 5, 6, 7, 8, 9, 10, 11, 12, 13, 14, 15, 16, 17, 18, 19, 20, 21, 22, 23, 24, 25, 26, 27, 28, 29, 30, 31, 32, 33, 34] 0 (by kernel_rfl) (by kernel_rfl) (by kernel_rfl) (by kernel_rfl) (by kernel_rfl) (fun _ _ _ _ _ h => h) D9.out.drew.1 ?_
            intro hne hu
            simp only [AllCells] at hu
            simp only [pick, List.take_succ_cons, List.take_zero, List.drop_succ_cons, List.drop_zero, List.cons_append, List.nil_append]
            repeat (go_big_quiet_step (fail))
            refine wpQuiet_nil ?_
            clear hne hu
            refine ⟨by kernel_rfl, ?_⟩
            go_wp2_with fail
            go_ret
            exact ⟨rfl, (S9.out.drewN _).clean.below⟩
          · refine anyN_more [18, 19, 20, 21, 22, 23, 24, 25, 26, 27, 28, 29, 30, 31, 32, 33, 34, 35, 36, 37, 38] 0 (by kernel_rfl) (by kernel_rfl) (by kernel_rfl) (by kernel_rfl) (fun _ _ _ _ _ h => h) C9.out.1 ?_
            intro hne hu
            simp only [AllCells] at hu
            simp only [pick, List.take_succ_cons, List.take_zero, List.drop_succ_cons, List.drop_zero, List.cons_append, List.nil_append]
            repeat (go_big_quiet_step (fail))
            refine wpQuiet_nil ?_
            clear hne hu
            refine ⟨by kernel_rfl, ?_⟩
            go_wp2_with fail
            refine region_free _ [0, 1, 2, 3, 4, 5, 6, 7, 8, 9, 10, 11, 12, 13, 14, 15, 16, 17, 18, 19, 20, 21, 22, 23, 24, 25, 26, 27, 28, 29, 30, 31, 32, 33, 34] 0 (by kernel_rfl) (by kernel_rfl) (by kernel_rfl) (by kernel_rfl) (by kernel_rfl) (fun _ _ _ _ _ h => h) D9.out.drew.1 ?_
            intro hne hu
            simp only [AllCells] at hu
            simp only [pick, List.take_succ_cons, List.take_zero, List.drop_succ_cons, List.drop_zero, List.cons_append, List.nil_append]
            repeat (go_big_quiet_step (fail))
            refine wpQuiet_nil ?_
            clear hne hu
            refine ⟨by kernel_rfl, ?_⟩
            go_wp2_with fail
            go_ret
            exact ⟨rfl, (S9.out.drewN _).clean.below⟩
        · have hzz : ideq 0 0 0 0 = true := by decide
          have D9 := Lib.hid (Kept.cons (own := ow7) (T := [0, 3]) e0 (by show ow7 X ∈ _; rw [X9.out.zero]; simp) (Kept.cons e1 (by show ow7 X ∈ _; rw [X9.out.zero]; simp) Kept.nil))
          cases hasv
          · refine anyN_more [18, 19, 20, 21, 22, 23, 24, 25, 26, 27, 28, 29, 30, 31, 32, 33, 34, 35, 36, 37, 38] 0 (by kernel_rfl) (by kernel_rfl) (by kernel_rfl) (by kernel_rfl) (fun _ _ _ _ _ h => h) C9.out.1 ?_
            intro hne hu
            simp only [AllCells] at hu
            simp only [pick, List.take_succ_cons, List.take_zero, List.drop_succ_cons, List.drop_zero, List.cons_append, List.nil_append]
            repeat (go_big_quiet_step (fail))
            refine wpQuiet_nil ?_
            clear hne hu
            refine ⟨by kernel_rfl, ?_⟩
            go_wp2_with fail
            refine region_free _ [0, 1, 2, 3, 4, 5, 6, 7, 8, 9, 10, 11, 12, 13, 14, 15, 16, 17, 18, 19, 20, 21, 22, 23, 24, 25, 26, 27, 28, 29, 30, 31, 32, 33, 34] 0 (by kernel_rfl) (by kernel_rfl) (by kernel_rfl) (by kernel_rfl) (by kernel_rfl) (fun _ _ _ _ _ h => h) D9.out.drew.1 ?_
            intro hne hu
            simp only [AllCells] at hu
            simp only [pick, List.take_succ_cons, List.take_zero, List.drop_succ_cons, List.drop_zero, List.cons_append, List.nil_append]
            repeat (go_big_quiet_step (fail))
            refine wpQuiet_nil ?_
            clear hne hu
            refine ⟨by kernel_rfl, ?_⟩
            go_wp2_with fail
            go_ret
            exact ⟨rfl, (S9.out.drewN _).clean.below⟩
          · refine anyN_more [18, 19, 20, 21, 22, 23, 24, 25, 26, 27, 28, 29, 30, 31, 32, 33, 34, 35, 36, 37, 38] 0 (by kernel_rfl) (by kernel_rfl) (by kernel_rfl) (by kernel_rfl) (fun _ _ _ _ _ h => h) C9.out.1 ?_
            intro hne hu
            simp only [AllCells] at hu
            simp only [pick, List.take_succ_cons, List.take_zero, List.drop_succ_cons, List.drop_zero, List.cons_append, List.nil_append]
            repeat (go_big_quiet_step (fail))
            refine wpQuiet_nil ?_
            clear hne hu
            refine ⟨by kernel_rfl, ?_⟩
            go_wp2_with fail
            refine region_free _ [0, 1, 2, 3, 4, 5, 6, 7, 8, 9, 10, 11, 12, 13, 14, 15, 16, 17, 18, 19, 20, 21, 22, 23, 24, 25, 26, 27, 28, 29, 30, 31, 32, 33, 34] 0 (by kernel_rfl) (by kernel_rfl) (by kernel_rfl) (by kernel_rfl) (by kernel_rfl) (fun _ _ _ _ _ h => h) D9.out.drew.1 ?_
            intro hne hu
            simp only [AllCells] at hu
            simp only [pick, List.take_succ_cons, List.take_zero, List.drop_succ_cons, List.drop_zero, List.cons_append, List.nil_append]
            repeat (go_big_quiet_step (fail))
            refine wpQuiet_nil ?_
            clear hne hu
            refine ⟨by kernel_rfl, ?_⟩
            go_wp2_with fail
            go_ret
            exact ⟨rfl, (S9.out.drewN _).clean.below⟩
end Go.Proofs.Ytgmlhpkhecbkoaa

