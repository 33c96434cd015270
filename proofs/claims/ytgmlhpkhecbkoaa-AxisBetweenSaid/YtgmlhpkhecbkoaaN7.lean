/-
  counterpanelaw03.AxisBetween, walked: it returns true. Condition: the ids and the deeds can be read.
-/
import Derived.Test.YtgmlhpkhecbkoaaN6
namespace Go.Proofs.Ytgmlhpkhecbkoaa
open Go.RowKit

set_option maxRecDepth 100000 in
set_option maxHeartbeats 8000000 in
theorem between_few (A D : Option Addr) (n c m d : Nat) (ids0 : List Id) (ds : List Deed) (f1 f2 t1 t2 : Int) (w : World) (hR : IdsR w (fun _ => 0) 0 A ids0) (hn : ids0.length = n) (hD : ManyR deedCells 5 w (fun _ => 0) 0 D ds) (hm : ds.length = m) (h100 : n ≤ 100) (h60 : m ≤ 60) :
    Calls Try.prog 9 #[.slice A n c, .slice D m d, .agg #[.int .i64 f1, .int .i64 f2], .agg #[.int .i64 t1, .int .i64 t2]] w fun e w' => e = .returned (.bool true) ∧ Below w.heap.size w w' := by
  have HR := Lib.hid hR
  have Hn := Lib.hid hn
  have HD := Lib.hid hD
  have Hm := Lib.hid hm
  clear hR hn hD hm
  go_enter Try.func9, Try.ntmps9
  go_wp2_with fail
  have k0 := (((Clean.start w).alloc (.cells #[.int .i64 f1, .int .i64 f2] 24)).alloc (.cells #[.int .i64 t1, .int .i64 t2] 24))
  have x0 := ((Box.new (Clean.start w).fresh 24 #[.int .i64 f1, .int .i64 f2]).alloc (.cells #[.int .i64 t1, .int .i64 t2] 24))
  have x1 : Box ((w.alloc (.cells #[.int .i64 f1, .int .i64 f2] 24)).alloc (.cells #[.int .i64 t1, .int .i64 t2] 24)) (fun _ => 0) (w.heap.size + 1) 24 #[.int .i64 t1, .int .i64 t2] := by
    have := (Box.new ((Clean.start w).alloc (.cells #[.int .i64 f1, .int .i64 f2] 24)).fresh 24 #[.int .i64 t1, .int .i64 t2])
    simpa using this
  have r0 := HR.out.keep (w' := ((w.alloc (.cells #[.int .i64 f1, .int .i64 f2] 24)).alloc (.cells #[.int .i64 t1, .int .i64 t2] 24))) (by simp; omega) (((Same.refl 0 (fun _ => 0) w).trans (by exact Nat.le_refl _) (Same.alloc (.cells #[.int .i64 f1, .int .i64 f2] 24))).trans (by simp) (Same.alloc (.cells #[.int .i64 t1, .int .i64 t2] 24)))
  have d0 := HD.out.keep (w' := ((w.alloc (.cells #[.int .i64 f1, .int .i64 f2] 24)).alloc (.cells #[.int .i64 t1, .int .i64 t2] 24))) (by simp; omega) (((Same.refl 0 (fun _ => 0) w).trans (by exact Nat.le_refl _) (Same.alloc (.cells #[.int .i64 f1, .int .i64 f2] 24))).trans (by simp) (Same.alloc (.cells #[.int .i64 t1, .int .i64 t2] 24)))
  refine (awake_c _).mono ?_
  rintro e w1 ⟨rfl, hB⟩
  have K1 := Lib.hid (k0.next hB)
  have X01 := Lib.hid (x0.next hB)
  have X11 := Lib.hid (x1.next hB)
  have R1 := Lib.hid (r0.keep hB.size (Same.below hB))
  have D1 := Lib.hid (d0.keep hB.size (Same.below hB))
  clear k0 x0 x1 r0 d0 hB HR HD
  go_wp2_with fail
  refine (new_c A n c ids0 w1 (fun _ => 0) 0 1 R1.out Hn.out (by simp only [maxLen]; omega) (by decide)).mono ?_
  rintro e w2 ⟨own2, qa, rfl, tr2, hqa, a2⟩
  have K2 := Lib.hid (K1.out.tr tr2 (by decide))
  have X02 := Lib.hid (X01.out.tr tr2 (by decide))
  have X12 := Lib.hid (X11.out.tr tr2 (by decide))
  have R2 := Lib.hid (R1.out.keep tr2.size (tr2.toSame (by decide)))
  have D2 := Lib.hid (D1.out.keep tr2.size (tr2.toSame (by decide)))
  have A2 := Lib.hid a2
  clear tr2 a2 hqa K1 X01 X11 R1 D1
  go_wp2_with fail
  refine (rnew_c A n c ids0 w2 own2 0 2 R2.out Hn.out (by simp only [maxLen]; omega) (by decide)).mono ?_
  rintro e w3 ⟨own3, qx, rfl, tr3, hqx, x3⟩
  have S3 : Hid (SE w own3 qa qx (newL ids0) (List.replicate (newL ids0).length true) (newL ids0) (List.replicate (newL ids0).length true) D ds [(f1, f2), (t1, t2)] w3) :=
    ⟨K2.out.tr tr3 (by decide), A2.out.other tr3 (by decide), x3, D2.out.keep tr3.size (tr3.toSame (by decide)), fun k z hz => by
      match k, hz with
      | 0, hz => cases hz; exact X02.out.tr tr3 (by decide)
      | 1, hz => cases hz; exact X12.out.tr tr3 (by decide)⟩
  clear tr3 x3 hqx K2 X02 X12 R2 D2 A2
  generalize newL ids0 = L0 at *
  generalize List.replicate L0.length true = la0 at *
  go_wp2_with fail
  go_loopw [11] (fun i wr => ∃ (k : Nat) (ow : Tags) (ids : List Id) (live : List Bool), k ≤ m ∧ i = .int .i64 k ∧ SE w ow qa qx ids live ids live D ds [(f1, f2), (t1, t2)] wr) (fun i _ => m - (intOf i).toNat)
  case atStart => exact ⟨0, own3, L0, la0, Nat.zero_le _, rfl, S3.out⟩
  case round =>
    clear S3
    obtain ⟨k, ow, ids, live, hk, rfl, s0⟩ := hrel
    have S0 := Lib.hid s0
    clear s0
    by_cases hlt : k < m
    · obtain ⟨b, off, dd, rfl, g1, g2, g3, g4, g5⟩ := S0.out.deed (k := k) (by rw [Hm.out]; exact hlt)
      have hkm : (k : Int) < (m : Int) := by omega
      have hk0 : (0 : Int) ≤ (k : Int) := by omega
      have hdo := Lib.hid (do_c wr ow 1 2 qa qx ids live dd (by decide) (by decide) (by decide) S0.out.clean.fresh S0.out.a S0.out.x)
      unfold deedv at hdo
      generalize doI ids dd = ids' at *
      generalize doL ids live dd = live' at *
      go_wp2_with fail
      refine hdo.out.mono ?_
      rintro e w1 hq
      obtain ⟨rfl, ow1, s1⟩ := S0.out.done hq
      have S1 := Lib.hid s1
      clear s1 hq S0 g1 g2 g3 g4 g5 hdo
      go_wp2_with fail
      go_roundw
      case rel => exact ⟨k + 1, ow1, ids', live', by omega, by go_num, S1.out⟩
      case measure => simp [intOf]; omega
    · have hkk : k = m := by omega
      subst hkk
      have hle := S0.out.x.le
      have hax := Lib.hid (show live.length = ids.length ∧ ids.Nodup ∧ (0, 0) ∉ ids from ⟨S0.out.a.len, S0.out.a.nodup, S0.out.a.nz⟩)
      obtain ⟨i1, i2⟩ := S0.out.box 0 (f1, f2) rfl
      obtain ⟨j1, j2⟩ := S0.out.box 1 (t1, t2) rfl
      simp only [Nat.add_zero] at i1 i2
      go_wp2_with fail
      refine (between_c wr ow 1 3 qa ids live f1 f2 t1 t2 S0.out.a S0.out.clean.fresh (by decide)).mono ?_
      rintro e w5 ⟨own4, w4, tr4, a4, v, own5, rfl, tr5, row5⟩
      have S5 := Lib.hid ((S0.out.trA tr4 a4).tr tr5 (by decide) (by decide) (by decide))
      have R5 := Lib.hid row5
      have hcom := Lib.hid (betweenL_comm ids live (t1, t2) (f1, f2))
      have hpl := Lib.hid (between_places ids live hax.out.1 hax.out.2.1 (f1, f2) (t1, t2))
      have hal := length_between ids live (f1, f2) (t1, t2)
      obtain ⟨L, hL⟩ : ∃ L, L = betweenL ids live (f1, f2) (t1, t2) := ⟨_, rfl⟩
      have HL := Lib.hid hL
      rw [← hL] at R5 hpl hal hcom
      have hLL : L.length ≤ 1000 := Nat.le_trans hal hle
      obtain ⟨AL, cL, hv, _⟩ := row5.form
      rw [← hL] at hv
      clear hL tr4 a4 tr5 row5 S0 i1 i2 j1 j2 hal
      subst hv
      obtain ⟨i1, i2⟩ := S5.out.box 0 (f1, f2) rfl
      obtain ⟨j1, j2⟩ := S5.out.box 1 (t1, t2) rfl
      simp only [Nat.add_zero] at i1 i2
      go_wp2_with fail
      refine (rbetween_c w5 own5 2 4 qx ids live f1 f2 t1 t2 S5.out.x (by decide) S5.out.clean.fresh).mono ?_
      rintro e w6 ⟨v, own6, rfl, tr6, row6⟩
      rw [← HL.out] at row6
      obtain ⟨AX, cX, hv, _⟩ := row6.form
      subst hv
      have S6 := Lib.hid (S5.out.tr tr6 (by decide) (by decide) (by decide))
      have R6 := Lib.hid (R5.out.keep (tr6.toSame (by decide)))
      have V6 := Lib.hid row6
      clear tr6 row6 S5 R5 i1 i2 j1 j2
      go_wp2_with fail
      refine (same_c AL AX L.length L.length cL cX L L w6 own6 own6 3 4 R6.out.toIdsR.2 V6.out.toIdsR.2 rfl rfl (by simp only [maxLen]; omega)).mono ?_
      rintro e w7 ⟨rfl, nq, rfl⟩
      rw [decide_eq_true rfl]
      have S7 := Lib.hid (S6.out.drewN nq)
      have R7 := Lib.hid (R6.out.keep (Same.drewN nq))
      clear S6 R6 V6
      generalize w6.drewN nq = W7 at *
      obtain ⟨i1, i2⟩ := S7.out.box 0 (f1, f2) rfl
      obtain ⟨j1, j2⟩ := S7.out.box 1 (t1, t2) rfl
      simp only [Nat.add_zero] at i1 i2
      go_wp2_with fail
      refine (between_c W7 own6 1 5 qa ids live t1 t2 f1 f2 S7.out.a S7.out.clean.fresh (by decide)).mono ?_
      rintro e w9 ⟨own8, w8, tr8, a8, v, own9, rfl, tr9, row9⟩
      rw [hcom.out] at row9
      obtain ⟨AY, cY, hv, _⟩ := row9.form
      subst hv
      have S9 := Lib.hid ((S7.out.trA tr8 a8).tr tr9 (by decide) (by decide) (by decide))
      have R9 := Lib.hid ((R7.out.keep (tr8.toSame (by decide))).keep (tr9.toSame (by decide)))
      have V9 := Lib.hid row9
      clear tr8 a8 tr9 row9 S7 R7 i1 i2 j1 j2
      go_wp2_with fail
      refine (same_c AY AL L.length L.length cY cL L L w9 own9 own9 5 3 V9.out.toIdsR.2 R9.out.toIdsR.2 rfl rfl (by simp only [maxLen]; omega)).mono ?_
      rintro e w10 ⟨rfl, nq2, rfl⟩
      rw [decide_eq_true rfl]
      have S10 := Lib.hid (S9.out.drewN nq2)
      have R10 := Lib.hid (R9.out.keep (Same.drewN nq2))
      clear S9 R9 V9
      generalize w9.drewN nq2 = W10 at *
      obtain ⟨q, hqb, hq⟩ := hpl.out
      have hqc : (q : Int) ≤ 1000 := by omega
      clear hqb
      have Hq := Lib.hid hq
      clear hq hpl
      go_wp2_with fail
      go_loopw [13] (fun i wr => ∃ (k : Nat) (ow : Tags), k ≤ L.length ∧ i = .int .i64 k ∧ SE w ow qa qx ids live ids live D ds [(f1, f2), (t1, t2)] wr ∧ Row wr ow 3 24 2 (.slice AL L.length cL) L.length (idCells L)) (fun i _ => L.length - (intOf i).toNat)
      case atStart => exact ⟨0, own9, Nat.zero_le _, rfl, S10.out, R10.out⟩
      case round =>
        clear S10 R10
        obtain ⟨j, ov, hj, rfl, s0, r0⟩ := hrel
        have S0 := Lib.hid s0
        have R0 := Lib.hid r0
        clear s0 r0
        by_cases hlt2 : j < L.length
        · have hj0 : (0 : Int) ≤ (j : Int) := by omega
          have hjl : (j : Int) < (L.length : Int) := by omega
          have h0l : (0 : Int) < (L.length : Int) := by omega
          have h0l' : 0 < L.length := by omega
          have hz := List.getElem?_eq_getElem hlt2
          have hy := List.getElem?_eq_getElem h0l'
          have Pz := Lib.hid (Hq.out j _ hz)
          have Py := Lib.hid (Hq.out 0 _ hy)
          obtain ⟨bL, oL, hA, _, _, hc⟩ := R0.out.toIdsR.2 (fun e => by rw [e] at hlt2; simp at hlt2)
          obtain ⟨g1, g2⟩ := hc j hlt2
          clear hz hy hc
          generalize L[j] = z at *
          obtain ⟨z1, z2⟩ := z
          dsimp only at g1 g2
          subst hA
          go_wp2_with fail
          refine (place_c wr ov 1 qa ids live z1 z2 S0.out.a S0.out.clean.fresh (by decide)).mono ?_
          rintro e v1 ⟨rfl, ov1, tr1, a1⟩
          rw [Pz.out]
          have S1 := Lib.hid (S0.out.trA tr1 a1)
          have R1 := Lib.hid (R0.out.keep (tr1.toSame (by decide)))
          clear tr1 a1 S0 R0 g1 g2
          obtain ⟨bL', oL', hA, _, _, hc⟩ := R1.out.toIdsR.2 (fun e => by rw [e] at hlt2; simp at hlt2)
          obtain ⟨g1, g2⟩ := hc 0 h0l'
          cases hA
          clear hc
          generalize L[0] = y at *
          obtain ⟨y1, y2⟩ := y
          dsimp only at g1 g2
          simp only [Nat.zero_mul, Nat.add_zero] at g1 g2
          go_wp2_with fail
          refine (place_c v1 ov1 1 qa ids live y1 y2 S1.out.a S1.out.clean.fresh (by decide)).mono ?_
          rintro e v2 ⟨rfl, ov2, tr2, a2⟩
          rw [Py.out]
          have S2 := Lib.hid (S1.out.trA tr2 a2)
          have R2 := Lib.hid (R1.out.keep (tr2.toSame (by decide)))
          clear tr2 a2 S1 R1 g1 g2
          have hne : (((q : Int) + (j : Int)) != ((q : Int) + (j : Int))) = false := by simp
          go_wp2_with fail
          go_roundw
          case rel => exact ⟨j + 1, ov2, by omega, by go_num, S2.out, R2.out⟩
          case measure => simp [intOf]; omega
        · have hjj : j = L.length := by omega
          subst hjj
          have hjn : ¬ ((L.length : Int) < (L.length : Int)) := by omega
          go_wp2_with fail
          go_ret
          exact ⟨rfl, S0.out.clean.below⟩
end Go.Proofs.Ytgmlhpkhecbkoaa

