/-
  counterpanelaw03.AxisEnds, walked: it returns true. Condition: the ids and the deeds can be read.
-/
import Derived.Test.YtgmlhpkhecbkoaaN1
namespace Go.Proofs.Ytgmlhpkhecbkoaa
open Go.RowKit

set_option maxRecDepth 100000 in
set_option maxHeartbeats 8000000 in
theorem ends_few (A D : Option Addr) (n c m d : Nat) (ids0 : List Id) (ds : List Deed) (x y : Int) (w : World) (hR : IdsR w (fun _ => 0) 0 A ids0) (hn : ids0.length = n) (hD : ManyR deedCells 5 w (fun _ => 0) 0 D ds) (hm : ds.length = m) (h100 : n ≤ 100) (h60 : m ≤ 60) :
    Calls Try.prog 8 #[.slice A n c, .slice D m d, .agg #[.int .i64 x, .int .i64 y]] w fun e w' => e = .returned (.bool true) ∧ Below w.heap.size w w' := by
  have HR := Lib.hid hR
  have Hn := Lib.hid hn
  have HD := Lib.hid hD
  have Hm := Lib.hid hm
  clear hR hn hD hm
  go_enter Try.func8, Try.ntmps8
  go_wp2_with fail
  have k0 := (Clean.start w).alloc (.cells #[.int .i64 x, .int .i64 y] 24)
  have x0 := Box.new (Clean.start w).fresh 24 #[.int .i64 x, .int .i64 y]
  have r0 := HR.out.keep (w' := w.alloc (.cells #[.int .i64 x, .int .i64 y] 24)) (by simp) (Same.alloc _)
  have d0 := HD.out.keep (w' := w.alloc (.cells #[.int .i64 x, .int .i64 y] 24)) (by simp) (Same.alloc _)
  refine (awake_c _).mono ?_
  rintro e w1 ⟨rfl, hB⟩
  have K1 := Lib.hid (k0.next hB)
  have X1 := Lib.hid (x0.next hB)
  have R1 := Lib.hid (r0.keep hB.size (Same.below hB))
  have D1 := Lib.hid (d0.keep hB.size (Same.below hB))
  clear k0 x0 r0 d0 hB HR HD
  go_wp2_with fail
  refine (new_c A n c ids0 w1 (fun _ => 0) 0 1 R1.out Hn.out (by simp only [maxLen]; omega) (by decide)).mono ?_
  rintro e w2 ⟨own2, qa, rfl, tr2, hqa, a2⟩
  have K2 := Lib.hid (K1.out.tr tr2 (by decide))
  have X2 := Lib.hid (X1.out.tr tr2 (by decide))
  have R2 := Lib.hid (R1.out.keep tr2.size (tr2.toSame (by decide)))
  have D2 := Lib.hid (D1.out.keep tr2.size (tr2.toSame (by decide)))
  have A2 := Lib.hid a2
  clear tr2 a2 hqa K1 X1 R1 D1
  go_wp2_with fail
  refine (rnew_c A n c ids0 w2 own2 0 2 R2.out Hn.out (by simp only [maxLen]; omega) (by decide)).mono ?_
  rintro e w3 ⟨own3, qx, rfl, tr3, hqx, x3⟩
  have S3 : Hid (SE w own3 qa qx (newL ids0) (List.replicate (newL ids0).length true) (newL ids0) (List.replicate (newL ids0).length true) D ds [(x, y)] w3) :=
    ⟨K2.out.tr tr3 (by decide), A2.out.other tr3 (by decide), x3, D2.out.keep tr3.size (tr3.toSame (by decide)), fun k z hz => by
      match k, hz with
      | 0, hz => cases hz; exact X2.out.tr tr3 (by decide)⟩
  clear tr3 x3 hqx K2 X2 R2 D2 A2
  generalize newL ids0 = L at *
  generalize List.replicate L.length true = la at *
  go_wp2_with fail
  go_loopw [9] (fun i wr => ∃ (k : Nat) (ow : Tags) (ids : List Id) (live : List Bool), k ≤ m ∧ i = .int .i64 k ∧ SE w ow qa qx ids live ids live D ds [(x, y)] wr) (fun i _ => m - (intOf i).toNat)
  case atStart => exact ⟨0, own3, L, la, Nat.zero_le _, rfl, S3.out⟩
  case round =>
    clear S3
    obtain ⟨k, ow, ids, live, hk, rfl, s0⟩ := hrel
    have S0 := Lib.hid s0
    clear s0
    by_cases hlt : k < m
    · obtain ⟨b, off, dd, rfl, g1, g2, g3, g4, g5⟩ := S0.out.deed (k := k) (by rw [Hm.out]; exact hlt)
      have hkm : (k : Int) < (m : Int) := by omega
      have hk0 : (0 : Int) ≤ (k : Int) := by omega
      have hdo := Lib.hid (do_c wr ow 1 2 qa qx ids live dd (by decide) (by decide) (by decide) S0.out.clean.fresh S0.out.a S0.out.x)
      unfold deedv at hdo
      generalize doI ids dd = ids' at *
      generalize doL ids live dd = live' at *
      go_wp2_with fail
      refine hdo.out.mono ?_
      rintro e w1 hq
      obtain ⟨rfl, ow1, s1⟩ := S0.out.done hq
      have S1 := Lib.hid s1
      clear s1 hq S0 g1 g2 g3 g4 g5 hdo
      go_wp2_with fail
      go_roundw
      case rel => exact ⟨k + 1, ow1, ids', live', by omega, by go_num, S1.out⟩
      case measure => simp [intOf]; omega
    · have hkk : k = m := by omega
      subst hkk
      have hle := S0.out.x.le
      have hax := Lib.hid (show live.length = ids.length ∧ ids.Nodup ∧ (0, 0) ∉ ids from ⟨S0.out.a.len, S0.out.a.nodup, S0.out.a.nz⟩)
      obtain ⟨vI, vL, xx⟩ := S0.out.x.is
      obtain ⟨AI, cI, hv, _⟩ := xx.rI.form
      subst hv
      have XX := Lib.hid xx
      have c0 := xx.blk.cell 0
      simp at c0
      by_cases he : ids = []
      · have hl0 : ((ids.length : Int) == 0) = true := by rw [he]; rfl
        have hal : Hid ((aliveOf ids live).length = 0) := by show _ = _; rw [he]; simp [aliveOf]
        clear xx he
        go_wp2_with fail
        refine (len_c wr ow 1 qa ids live S0.out.a).mono ?_
        rintro e w1 ⟨rfl, own1, tr1, a1, _⟩
        rw [hal.out]
        have S1 := Lib.hid (S0.out.trA tr1 a1)
        clear tr1 a1 S0
        go_wp2_with fail
        go_ret
        exact ⟨rfl, S1.out.clean.below⟩
      · have hpos : 0 < ids.length := by cases ids <;> simp_all
        have hl0 : ((ids.length : Int) == 0) = false := by rw [beq_eq_false_iff_ne]; omega
        obtain ⟨b, off, rfl, _, hb, hc⟩ := xx.rI.toIdsR.2 he
        obtain ⟨f1, f2⟩ := hc 0 hpos
        obtain ⟨l1, l2⟩ := hc (ids.length - 1) (by omega)
        have hf := Lib.hid (List.getElem?_eq_getElem hpos)
        have hl := Lib.hid (List.getElem?_eq_getElem (show ids.length - 1 < ids.length by omega))
        generalize ids[0] = f at *
        generalize ids[ids.length - 1] = l at *
        obtain ⟨fa, fb⟩ := f
        obtain ⟨la, lb⟩ := l
        dsimp only at f1 f2 l1 l2
        simp only [Nat.zero_mul, Nat.add_zero] at f1 f2
        obtain ⟨N, hN⟩ : ∃ N, N = ids.length - 1 := ⟨_, rfl⟩
        have hNN : ids.length = N + 1 := by omega
        have HN := Lib.hid hNN
        rw [← hN] at l1 l2 hl
        clear xx he hc hb
        rw [hNN] at c0 hl0
        have hNb : (N : Int) ≤ 1000 := by omega
        clear hN hNN
        have hN0 : (0 : Int) ≤ (N : Int) := by omega
        have hN1 : (N : Int) < ((N + 1 : Nat) : Int) := by omega
        have hN2 : (0 : Int) < ((N + 1 : Nat) : Int) := by omega
        go_wp2_with fail
        refine region_tail 19 (by kernel_rfl) (by kernel_rfl) ?_
        simp only [List.take_succ_cons, List.take_zero, List.drop_succ_cons, List.drop_zero]
        repeat (go_big_quiet_step (fail))
        refine wpQuiet_nil ?_
        go_wp2_with fail
        have S1 := Lib.hid S0.out.drew
        refine (between_c wr.drew ow 1 3 qa ids live la lb fa fb S1.out.a S1.out.clean.fresh (by decide)).mono ?_
        rintro e w5 ⟨own4, w4, tr4, a4, v, own5, rfl, tr5, row5⟩
        have hends := between_ends ids live hax.out.1 hax.out.2.1 (fa, fb) (la, lb) hf.out (by have := HN.out; rw [this]; exact hl.out)
        rw [hends.1] at row5
        have S5 := Lib.hid ((S1.out.trA tr4 a4).tr tr5 (by decide) (by decide) (by decide))
        have R5 := Lib.hid row5
        have hal := Lib.hid (length_aliveOf ids live)
        have hself := Lib.hid (between_self ids live hax.out.1 hax.out.2.1)
        obtain ⟨L, hL⟩ : ∃ L, L = aliveOf ids live := ⟨_, rfl⟩
        have HL := Lib.hid hL
        rw [← hL] at R5 hal hself
        have hLL : L.length ≤ 1000 := Nat.le_trans hal.out hle
        obtain ⟨AL, cL, hv, _⟩ := row5.form
        rw [← hL] at hv
        clear hL tr4 a4 tr5 row5 hends S0 S1 XX c0 f1 f2 l1 l2 hal
        subst hv
        go_wp2_with fail
        refine (len_c w5 own5 1 qa ids live S5.out.a).mono ?_
        rintro e w6 ⟨rfl, own6, tr6, a6, _⟩
        rw [← HL.out]
        have S6 := Lib.hid (S5.out.trA tr6 a6)
        have R6 := Lib.hid (R5.out.keep (tr6.toSame (by decide)))
        clear tr6 a6 S5 R5
        have hne : ((L.length : Int) != (L.length : Int)) = false := by simp
        go_wp2_with fail
        go_loopw [11] (fun i wr => ∃ (k : Nat) (ow : Tags), k ≤ L.length ∧ i = .int .i64 k ∧ SE w ow qa qx ids live ids live D ds [(x, y)] wr ∧ Row wr ow 3 24 2 (.slice AL L.length cL) L.length (idCells L)) (fun i _ => L.length - (intOf i).toNat)
        case atStart => exact ⟨0, own6, Nat.zero_le _, rfl, S6.out, R6.out⟩
        case round =>
          clear S6 R6
          obtain ⟨j, ov, hj, rfl, s0, r0⟩ := hrel
          have S0 := Lib.hid s0
          have R0 := Lib.hid r0
          clear s0 r0
          by_cases hlt2 : j < L.length
          · have hj0 : (0 : Int) ≤ (j : Int) := by omega
            have hjl : (j : Int) < (L.length : Int) := by omega
            have hz := List.getElem?_eq_getElem hlt2
            have hzz := Lib.hid (hself.out L[j] (List.getElem_mem hlt2))
            have Hz := Lib.hid hz
            clear hz
            generalize L[j] = z at *
            obtain ⟨z1, z2⟩ := z
            have hq : ideq z1 z2 z1 z2 = true := ideq_true.2 ⟨rfl, rfl⟩
            go_wp2_with fail
            refine (at_c wr ov 1 qa ids live j S0.out.a S0.out.clean.fresh (by decide)).mono ?_
            rintro e v1 ⟨rfl, ov1, tr1, a1⟩
            rw [← HL.out, atR_some rfl Hz.out]
            dsimp only
            have S1 := Lib.hid ((S0.out.trA tr1 a1).alloc (.cells #[.int .i64 z1, .int .i64 z2] 24))
            have R1 := Lib.hid ((R0.out.keep (tr1.toSame (by decide))).keep (Same.alloc (.cells #[.int .i64 z1, .int .i64 z2] 24)))
            have X1 := Lib.hid (Box.new (S0.out.trA tr1 a1).clean.fresh 24 #[.int .i64 z1, .int .i64 z2])
            clear tr1 a1 S0 R0
            obtain ⟨bL, oL, hA, _, _, hc⟩ := R1.out.toIdsR.2 (fun e => by rw [e] at hlt2; simp at hlt2)
            obtain ⟨g1, g2⟩ := hc j hlt2
            have hge := Hz.out
            rw [List.getElem?_eq_getElem hlt2] at hge
            rw [Option.some.inj hge] at g1 g2
            dsimp only at g1 g2
            have c0 := X1.out.blk.cell 0
            have c1 := X1.out.blk.cell 1
            simp only [List.getElem?_toArray, List.getElem?_cons_zero, List.getElem?_cons_succ] at c0 c1
            clear hge hc
            subst hA
            go_wp2_with fail
            generalize (v1.alloc (.cells #[.int .i64 z1, .int .i64 z2] 24)) = V1 at *
            generalize v1.heap.size = X at *
            go_quiet (fail)
            go_wp2_with fail
            refine region_tail 9 (by kernel_rfl) (by kernel_rfl) ?_
            simp only [List.take_succ_cons, List.take_zero, List.drop_succ_cons, List.drop_zero]
            repeat (go_big_quiet_step (fail))
            refine wpQuiet_nil ?_
            go_wp2_with fail
            have S2 := Lib.hid (S1.out.drewN (nq + 1))
            have R2 := Lib.hid (R1.out.keep (Same.drewN (nq + 1)))
            clear S1 R1 c0 c1 g1 g2 X1
            generalize V1.drewN (nq + 1) = V2 at *
            refine (between_c V2 ov1 1 4 qa ids live z1 z2 z1 z2 S2.out.a S2.out.clean.fresh (by decide)).mono ?_
            rintro e v3 ⟨ov3, v2, tr2, a2, v, ov4, rfl, tr3, row3⟩
            rw [hzz.out] at row3
            obtain ⟨AV, cV, hv, _⟩ := row3.form
            subst hv
            have S3 := Lib.hid ((S2.out.trA tr2 a2).tr tr3 (by decide) (by decide) (by decide))
            have R3 := Lib.hid ((R2.out.keep (tr2.toSame (by decide))).keep (tr3.toSame (by decide)))
            have V3 := Lib.hid row3
            clear tr2 a2 tr3 row3 S2 R2
            obtain ⟨bL', oL', hA, _, _, hc⟩ := R3.out.toIdsR.2 (fun e => by rw [e] at hlt2; simp at hlt2)
            obtain ⟨g1, g2⟩ := hc j hlt2
            have hge := Hz.out
            rw [List.getElem?_eq_getElem hlt2] at hge
            rw [Option.some.inj hge] at g1 g2
            dsimp only at g1 g2
            cases hA
            clear hge hc
            go_wp2_with fail
            have x4 := Box.new S3.out.clean.fresh 24 #[.int .i64 z1, .int .i64 z2]
            refine (same_c AV _ 1 1 cV 1 [(z1, z2)] [(z1, z2)] _ ov4 ov4 4 0 ((V3.out.keep (Same.alloc (.cells #[.int .i64 z1, .int .i64 z2] 24))).toIdsR.2) (one_ids x4.blk x4.zero) rfl rfl (by simp [maxLen])).mono ?_
            rintro e v4 ⟨rfl, nq2, rfl⟩
            rw [decide_eq_true rfl]
            have S4 := Lib.hid ((S3.out.alloc (.cells #[.int .i64 z1, .int .i64 z2] 24)).drewN nq2)
            have R4 := Lib.hid ((R3.out.keep (Same.alloc (.cells #[.int .i64 z1, .int .i64 z2] 24))).keep (Same.drewN nq2))
            clear x4 S3 R3 V3 g1 g2
            generalize (v3.alloc (.cells #[.int .i64 z1, .int .i64 z2] 24)).drewN nq2 = V4 at *
            go_wp2_with fail
            go_roundw
            case rel => exact ⟨j + 1, ov4, by omega, by go_num, S4.out, R4.out⟩
            case measure => simp [intOf]; omega
          · have hjj : j = L.length := by omega
            subst hjj
            have hjn : ¬ ((L.length : Int) < (L.length : Int)) := by omega
            obtain ⟨vI', vL', xx⟩ := S0.out.x.is
            obtain ⟨AI', cI', hv, _⟩ := xx.rI.form
            subst hv
            have c0 := xx.blk.cell 0
            simp at c0
            obtain ⟨b', off', rfl, _, hb, hc⟩ := xx.rI.toIdsR.2 (fun e => by have := HN.out; rw [e] at this; simp at this)
            obtain ⟨f1, f2⟩ := hc 0 hpos
            obtain ⟨l1, l2⟩ := hc N (by have := HN.out; omega)
            have e1 := hf.out
            have e2 := hl.out
            have hNl : N < ids.length := by have := HN.out; omega
            rw [List.getElem?_eq_getElem hpos] at e1
            rw [List.getElem?_eq_getElem hNl] at e2
            rw [Option.some.inj e1] at f1 f2
            rw [Option.some.inj e2] at l1 l2
            dsimp only at f1 f2 l1 l2
            simp only [Nat.zero_mul, Nat.add_zero] at f1 f2
            rw [HN.out] at c0
            have hp := xx.blk.lt
            clear xx e1 e2 hc hNl
            go_wp2_with fail
            refine region_held [(⟨qx, 0, none⟩, .slice (some ⟨b', off', none⟩) (N + 1) cI'), (⟨b', off' + N * 2, none⟩, .int .i64 la), (⟨b', off' + N * 2 + 1, none⟩, .int .i64 lb)] 12 1 (by kernel_rfl) (by kernel_rfl) (fun _ _ _ _ _ h => h) ⟨c0, l1, l2, trivial⟩ ?_
            intro hne2 hu
            simp only [AllCells] at hu
            simp only [List.take_succ_cons, List.take_zero, List.drop_succ_cons, List.drop_zero, tailWp]
            repeat (go_big_quiet_step (fail))
            refine wpQuiet_nil ?_
            clear hne2 hu
            have hid0 := S0.out.box 0 (x, y) rfl
            simp only [Nat.add_zero] at hid0
            obtain ⟨i1, i2⟩ := hid0
            have hwlt : w.heap.size < wr.heap.size := World.block_lt_of_cell? wr _ i1
            have X1 := Lib.hid ((Box.new S0.out.clean.fresh 24 #[.int .i64 la, .int .i64 lb]).next ((Below.refl _ _).drew))
            have S1 := Lib.hid ((S0.out.alloc (.cells #[.int .i64 la, .int .i64 lb] 24)).drew)
            have R1 := Lib.hid ((R0.out.keep (Same.alloc (.cells #[.int .i64 la, .int .i64 lb] 24))).keep Same.drew)
            go_wp2_with fail
            refine And.intro (by refine AllCells.drew (AllCells.alloc ?_ _); exact ⟨c0, l1, l2, trivial⟩) ?_
            go_wp2_with fail
            generalize (wr.alloc (.cells #[.int .i64 la, .int .i64 lb] 24)).drew = W1 at *
            generalize wr.heap.size = X at *
            clear hwlt i1 i2 c0 l1 l2 f1 f2 hp S0 R0 hb
            refine (insert_c W1 ov 1 qa ids live la lb x y S1.out.a).mono ?_
            rintro e w7 ⟨rfl, ov7, tr7, a7⟩
            have X7 := Lib.hid (X1.out.tr tr7 (by decide))
            have S7 := Lib.hid (S1.out.trA tr7 a7)
            have R7 := Lib.hid (R1.out.keep (tr7.toSame (by decide)))
            clear tr7 a7 X1 S1 R1
            by_cases hr : insR ids (la, lb) (x, y) = 0
            · obtain ⟨p1, p2, p3, p4⟩ := put_last ids live hax.out.1 hax.out.2.1 (fa, fb) (la, lb) (x, y) hf.out (by have := HN.out; rw [this]; exact hl.out) hr hax.out.2.2
              rw [p1, p2] at S7
              rw [← HL.out] at p3 p4
              have P3 := Lib.hid p3
              have P4 := Lib.hid p4
              rw [hr]
              clear p1 p2 p3 p4 hr
              generalize ids ++ [(x, y)] = I at *
              generalize live ++ [true] = J at *
              obtain ⟨vI', vL', xx⟩ := S7.out.x.is
              obtain ⟨AI', cI', hv, _⟩ := xx.rI.form
              subst hv
              have c0 := xx.blk.cell 0
              simp only [List.getElem?_toArray, List.getElem?_cons_zero] at c0
              obtain ⟨b', off', rfl, hbt, hb, hc⟩ := xx.rI.toIdsR.2 (fun e => by have := HN.out; rw [e] at this; simp at this)
              obtain ⟨f1, f2⟩ := hc 0 hpos
              have e1 := hf.out
              rw [List.getElem?_eq_getElem hpos] at e1
              rw [Option.some.inj e1] at f1 f2
              dsimp only at f1 f2
              simp only [Nat.zero_mul, Nat.add_zero] at f1 f2
              rw [HN.out] at c0
              have l1 := X7.out.blk.cell 0
              have l2 := X7.out.blk.cell 1
              simp only [List.getElem?_toArray, List.getElem?_cons_zero, List.getElem?_cons_succ] at l1 l2
              have hid0 := S7.out.box 0 (x, y) rfl
              simp only [Nat.add_zero] at hid0
              obtain ⟨i1, i2⟩ := hid0
              have C7 := Lib.hid (Kept.cons (T := [0, 2]) c0 (by show ov7 qx ∈ _; rw [xx.tag]; simp) (Kept.cons f1 (by show ov7 b' ∈ _; rw [hbt]; simp) (Kept.cons f2 (by show ov7 b' ∈ _; rw [hbt]; simp) (Kept.cons l1 (by show ov7 X ∈ _; rw [X7.out.zero]; simp) (Kept.cons l2 (by show ov7 X ∈ _; rw [X7.out.zero]; simp) (Kept.cons i1 (by show ov7 w.heap.size ∈ _; have := (S7.out.b 0 (x, y) rfl).zero; rw [Nat.add_zero] at this; rw [this]; simp) (Kept.cons i2 (by show ov7 w.heap.size ∈ _; have := (S7.out.b 0 (x, y) rfl).zero; rw [Nat.add_zero] at this; rw [this]; simp) Kept.nil)))))))
              clear xx e1 hc hb hbt
              go_wp2_with fail
              refine region_free _ [0, 1, 2, 3, 4, 5, 6, 7, 9] 19 (by kernel_rfl) (by kernel_rfl) (by kernel_rfl) (by kernel_rfl) (by kernel_rfl) (fun _ _ _ _ _ h => h) C7.out.drew.1 ?_
              intro hne2 hu
              simp only [AllCells] at hu
              simp only [pick, List.take_succ_cons, List.take_zero, List.drop_succ_cons, List.drop_zero, List.cons_append, List.nil_append]
              repeat (go_big_quiet_step (fail))
              refine wpQuiet_nil ?_
              clear hne2 hu
              refine anyN_oneL 8 (by kernel_rfl) ?_
              simp only [List.take_succ_cons, List.take_zero, List.drop_succ_cons, List.drop_zero]
              go_wp2_with fail
              have S8 := Lib.hid S7.out.drew
              have C8 := Lib.hid C7.out.drew
              have R8 := Lib.hid (R7.out.keep Same.drew)
              clear S7 C7 R7 X7 c0 f1 f2 l1 l2 i1 i2
              generalize w7.drew = W8 at *
              refine (between_c W8 ov7 1 4 qa I J fa fb la lb S8.out.a S8.out.clean.fresh (by decide)).mono ?_
              rintro e w9 ⟨ov8, w8, tr8, a8, v, ov9, rfl, tr9, row9⟩
              rw [P3.out] at row9
              obtain ⟨AV, cV, hv, _⟩ := row9.form
              subst hv
              have S9 := Lib.hid ((S8.out.trA tr8 a8).tr tr9 (by decide) (by decide) (by decide))
              have C9 := Lib.hid ((C8.out.tr tr8 (by decide)).tr tr9 (by decide))
              have R9 := Lib.hid ((R8.out.keep (tr8.toSame (by decide))).keep (tr9.toSame (by decide)))
              have V9 := Lib.hid row9
              clear tr8 a8 tr9 row9 S8 C8 R8
              go_wp2_with fail
              refine And.intro (fun _ => C9.out.1) ?_
              refine anyN_oneL 10 (by kernel_rfl) ?_
              simp only [List.take_succ_cons, List.take_zero, List.drop_succ_cons, List.drop_zero]
              go_wp2_with fail
              refine (same_c AV AL L.length L.length cV cL L L w9 ov9 ov9 4 3 V9.out.toIdsR.2 R9.out.toIdsR.2 rfl rfl (by simp only [maxLen]; omega)).mono ?_
              rintro e v4 ⟨rfl, nq2, rfl⟩
              rw [decide_eq_true rfl]
              have S10 := Lib.hid (S9.out.drewN nq2)
              have C10 := Lib.hid (C9.out.drewN nq2)
              clear S9 C9 R9 V9
              generalize w9.drewN nq2 = W10 at *
              go_wp2_with fail
              refine And.intro (fun _ => C10.out.1) ?_
              refine anyN_oneL 11 (by kernel_rfl) ?_
              simp only [List.take_succ_cons, List.take_zero, List.drop_succ_cons, List.drop_zero]
              go_wp2_with fail
              refine And.intro (fun _ => C10.out.1) ?_
              refine anyN_more [12, 13, 14, 15, 16, 17, 18, 19, 22, 23, 24] 5 (by kernel_rfl) (by kernel_rfl) (by kernel_rfl) (by kernel_rfl) (fun _ _ _ _ _ h => h) C10.out.1 ?_
              intro hne2 hu
              simp only [AllCells] at hu
              simp only [pick, List.take_succ_cons, List.take_zero, List.drop_succ_cons, List.drop_zero, List.cons_append, List.nil_append]
              repeat (go_big_quiet_step (fail))
              refine wpQuiet_nil ?_
              clear hne2 hu
              refine anyN_oneL 20 (by kernel_rfl) ?_
              simp only [List.take_succ_cons, List.take_zero, List.drop_succ_cons, List.drop_zero]
              go_wp2_with fail
              refine (between_c W10 ov9 1 5 qa I J fa fb x y S10.out.a S10.out.clean.fresh (by decide)).mono ?_
              rintro e w12 ⟨ov11, w11, tr11, a11, v, ov12, rfl, tr12, row12⟩
              rw [P4.out] at row12
              obtain ⟨AV2, cV2, hv, _⟩ := row12.form
              subst hv
              rw [List.length_append, List.length_singleton]
              have S12 := Lib.hid ((S10.out.trA tr11 a11).tr tr12 (by decide) (by decide) (by decide))
              have C12 := Lib.hid ((C10.out.tr tr11 (by decide)).tr tr12 (by decide))
              clear tr11 a11 tr12 row12 S10 C10
              have hll : ((L.length : Int) + 1 == (L.length : Int) + 1) = true := by simp
              go_wp2_with fail
              refine And.intro (fun _ => C12.out.1) ?_
              refine anyN_oneL 21 (by kernel_rfl) ?_
              simp only [List.take_succ_cons, List.take_zero, List.drop_succ_cons, List.drop_zero]
              go_wp2_with fail
              refine And.intro (fun _ => C12.out.1) ?_
              refine anyN_oneL 25 (by kernel_rfl) ?_
              simp only [List.take_succ_cons, List.take_zero, List.drop_succ_cons, List.drop_zero]
              go_wp2_with fail
              refine And.intro (fun _ => C12.out.1) ?_
              refine anyN_oneL 26 (by kernel_rfl) ?_
              simp only [List.take_succ_cons, List.take_zero, List.drop_succ_cons, List.drop_zero]
              go_wp2_with fail
              refine And.intro (fun _ => C12.out.1) ?_
              refine anyN_oneL 27 (by kernel_rfl) ?_
              simp only [List.take_succ_cons, List.take_zero, List.drop_succ_cons, List.drop_zero]
              go_wp2_with fail
              refine And.intro (fun _ => C12.out.1) ?_
              refine ⟨by kernel_rfl, ?_⟩
              go_wp2_with fail
              go_ret
              exact ⟨rfl, S12.out.clean.below⟩
            · have hr1 : (insR ids (la, lb) (x, y) != 0) = true := by rw [bne_iff_ne]; exact hr
              clear hr
              go_wp2_with fail
              go_ret
              exact ⟨rfl, S7.out.clean.below⟩
end Go.Proofs.Ytgmlhpkhecbkoaa
