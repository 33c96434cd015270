/-
  counterpanelaw03.AxisClone, walked: it returns true. Condition: the ids and the deeds can be read.
-/
import Derived.Test.YtgmlhpkhecbkoaaP2
namespace Go.Proofs.Ytgmlhpkhecbkoaa
open Go.RowKit

set_option maxRecDepth 100000 in
set_option maxHeartbeats 8000000 in
theorem clone_few (A D : Option Addr) (n c m d : Nat) (ids0 : List Id) (ds : List Deed) (x y : Int) (w : World) (hR : IdsR w (fun _ => 0) 0 A ids0) (hn : ids0.length = n) (hD : ManyR deedCells 5 w (fun _ => 0) 0 D ds) (hm : ds.length = m) (h100 : n ≤ 100) (h60 : m ≤ 60) :
    Calls Try.prog 12 #[.slice A n c, .slice D m d, .agg #[.int .i64 x, .int .i64 y]] w fun e w' => e = .returned (.bool true) ∧ Below w.heap.size w w' := by
  have HR := Lib.hid hR
  have Hn := Lib.hid hn
  have HD := Lib.hid hD
  have Hm := Lib.hid hm
  clear hR hn hD hm
  go_enter Try.func12, Try.ntmps12
  go_wp2_with fail
  have k0 := ((Clean.start w).alloc (.cells #[.int .i64 x, .int .i64 y] 24))
  have x0 := (Box.new (Clean.start w).fresh 24 #[.int .i64 x, .int .i64 y])
  have r0 := HR.out.keep (w' := (w.alloc (.cells #[.int .i64 x, .int .i64 y] 24))) (by simp) ((Same.refl 0 (fun _ => 0) w).trans (by exact Nat.le_refl _) (Same.alloc (.cells #[.int .i64 x, .int .i64 y] 24)))
  have d0 := HD.out.keep (w' := (w.alloc (.cells #[.int .i64 x, .int .i64 y] 24))) (by simp) ((Same.refl 0 (fun _ => 0) w).trans (by exact Nat.le_refl _) (Same.alloc (.cells #[.int .i64 x, .int .i64 y] 24)))
  refine (awake_c _).mono ?_
  rintro e w1 ⟨rfl, hB⟩
  have K1 := Lib.hid (k0.next hB)
  have X01 := Lib.hid (x0.next hB)
  have R1 := Lib.hid (r0.keep hB.size (Same.below hB))
  have D1 := Lib.hid (d0.keep hB.size (Same.below hB))
  clear k0 x0 r0 d0 hB HR HD
  go_wp2_with fail
  refine (new_c A n c ids0 w1 (fun _ => 0) 0 1 R1.out Hn.out (by simp only [maxLen]; omega) (by decide)).mono ?_
  rintro e w2 ⟨own2, qa, rfl, tr2, hqa, a2⟩
  have K2 := Lib.hid (K1.out.tr tr2 (by decide))
  have X02 := Lib.hid (X01.out.tr tr2 (by decide))
  have R2 := Lib.hid (R1.out.keep tr2.size (tr2.toSame (by decide)))
  have D2 := Lib.hid (D1.out.keep tr2.size (tr2.toSame (by decide)))
  have A2 := Lib.hid a2
  clear tr2 a2 hqa K1 X01 R1 D1
  go_wp2_with fail
  refine (rnew_c A n c ids0 w2 own2 0 2 R2.out Hn.out (by simp only [maxLen]; omega) (by decide)).mono ?_
  rintro e w3 ⟨own3, qx, rfl, tr3, hqx, x3⟩
  have S3 : Hid (SE w own3 qa qx (newL ids0) (List.replicate (newL ids0).length true) (newL ids0) (List.replicate (newL ids0).length true) D ds [(x, y)] w3) :=
    ⟨K2.out.tr tr3 (by decide), A2.out.other tr3 (by decide), x3, D2.out.keep tr3.size (tr3.toSame (by decide)), fun k z hz => by
      match k, hz with
      | 0, hz => cases hz; exact X02.out.tr tr3 (by decide)⟩
  have R3 := Lib.hid (R2.out.keep tr3.size (tr3.toSame (by decide)))
  clear tr3 x3 hqx K2 X02 R2 D2 A2
  have HL0 := Lib.hid (rfl : newL ids0 = newL ids0)
  obtain ⟨L0, hL0⟩ : ∃ L0, newL ids0 = L0 := ⟨_, rfl⟩
  obtain ⟨la0, hla0⟩ : ∃ la0, List.replicate L0.length true = la0 := ⟨_, rfl⟩
  rw [hL0, hla0] at S3
  have HN := Lib.hid (And.intro hL0 hla0)
  clear hL0 hla0 HL0
  go_wp2_with fail
  refine (clone43_c w3 own3 1 6 qa L0 la0 S3.out.a).mono ?_
  rintro e w4 ⟨own4, qb, rfl, tr4, hqb, b4⟩
  have S4 : Hid (SC w own4 qa qx qb L0 la0 L0 la0 A ids0 D ds [(x, y)] w4) := ⟨S3.out.tr tr4 (by decide) (by decide) (by decide), b4, R3.out.keep tr4.size (tr4.toSame (by decide))⟩
  clear tr4 hqb b4 S3 R3
  go_wp2_with fail
  go_loopw [10] (fun i wr => ∃ (k : Nat) (ow : Tags) (ids : List Id) (live : List Bool), k ≤ m ∧ i = .int .i64 k ∧ SC w ow qa qx qb ids live L0 la0 A ids0 D ds [(x, y)] wr) (fun i _ => m - (intOf i).toNat)
  case atStart => exact ⟨0, own4, L0, la0, Nat.zero_le _, rfl, S4.out⟩
  case round =>
    clear S4
    obtain ⟨k, ow, ids, live, hk, rfl, s0⟩ := hrel
    have S0 := Lib.hid s0
    clear s0
    by_cases hlt : k < m
    · obtain ⟨b, off, dd, rfl, g1, g2, g3, g4, g5⟩ := S0.out.s.deed (k := k) (by rw [Hm.out]; exact hlt)
      have hkm : (k : Int) < (m : Int) := by omega
      have hk0 : (0 : Int) ≤ (k : Int) := by omega
      have hdo := Lib.hid (do_c wr ow 1 2 qa qx ids live dd (by decide) (by decide) (by decide) S0.out.s.clean.fresh S0.out.s.a S0.out.s.x)
      unfold deedv at hdo
      generalize doI ids dd = ids' at *
      generalize doL ids live dd = live' at *
      go_wp2_with fail
      refine hdo.out.mono ?_
      rintro e w1 hq
      obtain ⟨rfl, ow1, s1⟩ := S0.out.done hq
      have S1 := Lib.hid s1
      clear s1 hq S0 g1 g2 g3 g4 g5 hdo
      go_wp2_with fail
      go_roundw
      case rel => exact ⟨k + 1, ow1, ids', live', by omega, by go_num, S1.out⟩
      case measure => simp [intOf]; omega
    · have hkk : k = m := by omega
      subst hkk
      go_wp2_with fail
      refine (clone43_c wr ow 1 7 qa ids live S0.out.s.a).mono ?_
      rintro e w5 ⟨own5, qc, rfl, tr5, hqc, c5⟩
      have S5 := Lib.hid (S0.out.tr tr5 (by decide) (by decide) (by decide) (by decide))
      have C5 := Lib.hid c5
      clear tr5 hqc c5 S0
      go_wp2_with fail
      go_loopw [12] (fun i wr => ∃ (j : Nat) (ow : Tags) (ic : List Id) (lc : List Bool), j ≤ k ∧ i = .int .i64 j ∧ SC w ow qa qx qb ids live L0 la0 A ids0 D ds [(x, y)] wr ∧ AxisAt wr ow 7 qc ic lc) (fun i _ => k - (intOf i).toNat)
      case atStart => exact ⟨0, own5, ids, live, Nat.zero_le _, rfl, S5.out, C5.out⟩
      case round =>
        clear S5 C5
        obtain ⟨j, ov, ic, lc, hj, rfl, s0, c0⟩ := hrel
        have S0 := Lib.hid s0
        have C0 := Lib.hid c0
        clear s0 c0
        by_cases hjt : j < k
        · obtain ⟨b, off, dd, rfl, g1, g2, g3, g4, g5⟩ := S0.out.s.deed (k := j) (by rw [Hm.out]; exact hjt)
          have hkm : (j : Int) < (k : Int) := by omega
          have hk0 : (0 : Int) ≤ (j : Int) := by omega
          clear g1 g2 g3
          generalize dd.id.1 = z1 at *
          generalize dd.id.2 = z2 at *
          go_wp2_with fail
          refine (delete_c wr ov 7 qc ic lc z1 z2 C0.out).mono ?_
          rintro e w1 ⟨rfl, ov1, tr1, c1⟩
          have S1 := Lib.hid (S0.out.tr tr1 (by decide) (by decide) (by decide) (by decide))
          have C1 := Lib.hid c1
          generalize turnL ic lc (z1, z2) false = lc' at *
          generalize turnR ic lc (z1, z2) false = rv at *
          clear tr1 c1 S0 C0 g4 g5
          go_wp2_with fail
          refine (insert_c w1 ov1 7 qc ic lc' 0 0 (-9) _ C1.out).mono ?_
          rintro e w2 ⟨rfl, ov2, tr2, c2⟩
          have S2 := Lib.hid (S1.out.tr tr2 (by decide) (by decide) (by decide) (by decide))
          have C2 := Lib.hid c2
          clear tr2 c2 S1 C1
          generalize insIds ic (0, 0) (-9, _) = ic2 at *
          generalize insLive ic lc' (0, 0) (-9, _) = lc2 at *
          generalize insR ic (0, 0) (-9, _) = rv2 at *
          go_wp2_with fail
          go_roundw
          case rel => exact ⟨j + 1, ov2, _, _, by omega, by go_num, S2.out, C2.out⟩
          case measure => simp [intOf]; omega
        · have hjj : j = k := by omega
          subst hjj
          clear C0
          obtain ⟨trz, az⟩ := zero_axis wr ov 8
          have S1 := Lib.hid (S0.out.tr trz (by decide) (by decide) (by decide) (by decide))
          have Z1 := Lib.hid az
          clear trz az S0
          generalize tagAt ov wr.heap.size 8 = ov1 at *
          go_wp2_with fail
          generalize hV : wr.alloc (.cells #[.slice none 0 0, .slice none 0 0, .map none, .slice none 0 0, .slice none 0 0] 73) = V1 at *
          clear hV
          generalize wr.heap.size = qz at *
          refine (at_nil V1).mono ?_
          rintro e w1 ⟨rfl, hB1⟩
          have S2 := Lib.hid ((S1.out.next hB1).next ((Below.refl _ _).alloc (Nat.le_refl _) (.cells #[.int .i64 0, .int .i64 0] 24)))
          have Z2 := Lib.hid ((Z1.out.next hB1).next ((Below.refl _ _).alloc (Nat.le_refl _) (.cells #[.int .i64 0, .int .i64 0] 24)))
          have X2 := Lib.hid (Box.new (S1.out.next hB1).s.clean.fresh 24 #[.int .i64 0, .int .i64 0])
          obtain ⟨i1, i2⟩ := (S1.out.next hB1).s.box 0 (x, y) rfl
          simp only [Nat.add_zero] at i1 i2
          have hwl := World.block_lt_of_cell? w1 _ i1
          dsimp only at hwl
          clear hB1 S1 Z1
          go_wp2_with fail
          generalize hV : w1.alloc (.cells #[.int .i64 0, .int .i64 0] 24) = V2 at *
          clear hV i1 i2 hwl
          generalize w1.heap.size = X at *
          refine (place_nil V2 x y).mono ?_
          rintro e w3 ⟨rfl, hB⟩
          have S3 := Lib.hid (S2.out.next hB)
          have Z3 := Lib.hid (Z2.out.next hB)
          have X3 := Lib.hid (X2.out.next hB)
          clear hB S2 Z2 X2
          obtain ⟨i1, i2⟩ := S3.out.s.box 0 (x, y) rfl
          simp only [Nat.add_zero] at i1 i2
          have x1 := X3.out.blk.cell 0
          have x2 := X3.out.blk.cell 1
          simp only [List.getElem?_toArray, List.getElem?_cons_zero, List.getElem?_cons_succ] at x1 x2
          go_wp2_with fail
          clear i1 i2 x1 x2
          have hqq : ideq 0 0 0 0 = true := by decide
          refine (insert_nil w3 0 0 x y).mono ?_
          rintro e w4 ⟨rfl, hB⟩
          have S4 := Lib.hid (S3.out.next hB)
          have Z4 := Lib.hid (Z3.out.next hB)
          have X4 := Lib.hid (X3.out.next hB)
          clear hB S3 Z3 X3
          obtain ⟨i1, i2⟩ := S4.out.s.box 0 (x, y) rfl
          simp only [Nat.add_zero] at i1 i2
          have x1 := X4.out.blk.cell 0
          have x2 := X4.out.blk.cell 1
          simp only [List.getElem?_toArray, List.getElem?_cons_zero, List.getElem?_cons_succ] at x1 x2
          go_wp2_with fail
          clear i1 i2 x1 x2
          refine (delete_nil w4 x y).mono ?_
          rintro e w5 ⟨rfl, hB⟩
          have S5 := Lib.hid (S4.out.next hB)
          have Z5 := Lib.hid (Z4.out.next hB)
          have X5 := Lib.hid (X4.out.next hB)
          clear hB S4 Z4 X4
          obtain ⟨i1, i2⟩ := S5.out.s.box 0 (x, y) rfl
          simp only [Nat.add_zero] at i1 i2
          have x1 := X5.out.blk.cell 0
          have x2 := X5.out.blk.cell 1
          simp only [List.getElem?_toArray, List.getElem?_cons_zero, List.getElem?_cons_succ] at x1 x2
          go_wp2_with fail
          clear i1 i2 x1 x2
          refine (revive_nil w5 x y).mono ?_
          rintro e w6 ⟨rfl, hB⟩
          have S6 := Lib.hid (S5.out.next hB)
          have Z6 := Lib.hid (Z5.out.next hB)
          have X6 := Lib.hid (X5.out.next hB)
          clear hB S5 Z5 X5
          obtain ⟨i1, i2⟩ := S6.out.s.box 0 (x, y) rfl
          simp only [Nat.add_zero] at i1 i2
          have x1 := X6.out.blk.cell 0
          have x2 := X6.out.blk.cell 1
          simp only [List.getElem?_toArray, List.getElem?_cons_zero, List.getElem?_cons_succ] at x1 x2
          go_wp2_with fail
          clear i1 i2 x1 x2
          refine (len_nil w6).mono ?_
          rintro e w7 ⟨rfl, rfl⟩
          have S7 := S6
          have Z7 := Z6
          have X7 := X6
          clear S6 Z6 X6
          obtain ⟨i1, i2⟩ := S7.out.s.box 0 (x, y) rfl
          simp only [Nat.add_zero] at i1 i2
          have x1 := X7.out.blk.cell 0
          have x2 := X7.out.blk.cell 1
          simp only [List.getElem?_toArray, List.getElem?_cons_zero, List.getElem?_cons_succ] at x1 x2
          go_wp2_with fail
          clear i1 i2 x1 x2
          refine (has_nil _ x y).mono ?_
          rintro e w8 ⟨rfl, hB⟩
          have S8 := Lib.hid (S7.out.next hB)
          have Z8 := Lib.hid (Z7.out.next hB)
          have X8 := Lib.hid (X7.out.next hB)
          clear hB S7 Z7 X7
          obtain ⟨i1, i2⟩ := S8.out.s.box 0 (x, y) rfl
          simp only [Nat.add_zero] at i1 i2
          have x1 := X8.out.blk.cell 0
          have x2 := X8.out.blk.cell 1
          simp only [List.getElem?_toArray, List.getElem?_cons_zero, List.getElem?_cons_succ] at x1 x2
          go_wp2_with fail
          clear i1 i2 x1 x2
          refine (between_nil w8 x y x y).mono ?_
          rintro e w9 ⟨rfl, hB⟩
          have S9 := Lib.hid (S8.out.next hB)
          have Z9 := Lib.hid (Z8.out.next hB)
          have X9 := Lib.hid (X8.out.next hB)
          clear hB S8 Z8 X8
          obtain ⟨i1, i2⟩ := S9.out.s.box 0 (x, y) rfl
          simp only [Nat.add_zero] at i1 i2
          have x1 := X9.out.blk.cell 0
          have x2 := X9.out.blk.cell 1
          simp only [List.getElem?_toArray, List.getElem?_cons_zero, List.getElem?_cons_succ] at x1 x2
          go_wp2_with fail
          clear i1 i2 x1 x2
          refine (all_c none w9).mono ?_
          rintro e w10 ⟨rfl, rfl⟩
          have S10 := Lib.hid (S9.out.next ((Below.refl _ _).alloc (Nat.le_refl _) (.cells #[.pointer none] 26)))
          have Z10 := Lib.hid (Z9.out.next ((Below.refl _ _).alloc (Nat.le_refl _) (.cells #[.pointer none] 26)))
          clear S9 Z9 X9
          generalize hV : w9.alloc (.cells #[.pointer none] 26) = V10 at *
          clear hV
          obtain ⟨trr, xr⟩ := zero_ref V10 ov1 9
          have S11 := Lib.hid (S10.out.tr trr (by decide) (by decide) (by decide) (by decide))
          have Z11 := Lib.hid (Z10.out.other trr (by decide))
          have XR := Lib.hid xr
          clear trr xr S10 Z10
          generalize tagAt ov1 V10.heap.size 9 = ov2 at *
          go_wp2_with fail
          generalize hV : V10.alloc (.cells #[.slice none 0 0, .slice none 0 0] 55) = V11 at *
          clear hV
          generalize V10.heap.size = qr at *
          refine (same41_nil V11 ov2 9 qr XR.out).mono ?_
          rintro e w12 ⟨rfl, hB⟩
          have S12 := Lib.hid (S11.out.next hB)
          have Z12 := Lib.hid (Z11.out.next hB)
          clear hB S11 Z11 XR
          go_wp2_with fail
          refine (clone43_nil w12 ov2 10).mono ?_
          rintro e w13 ⟨ov3, qn, rfl, trn, _, an⟩
          have S13 := Lib.hid (S12.out.tr trn (by decide) (by decide) (by decide) (by decide))
          have Z13 := Lib.hid (Z12.out.other trn (by decide))
          have A13 := Lib.hid an
          clear trn an S12 Z12
          obtain ⟨trr, xr⟩ := zero_ref w13 ov3 11
          have S14 := Lib.hid (S13.out.tr trr (by decide) (by decide) (by decide) (by decide))
          have Z14 := Lib.hid (Z13.out.other trr (by decide))
          have A14 := Lib.hid (A13.out.other trr (by decide))
          have XR := Lib.hid xr
          clear trr xr S13 Z13 A13
          generalize tagAt ov3 w13.heap.size 11 = ov4 at *
          go_wp2_with fail
          generalize hV : w13.alloc (.cells #[.slice none 0 0, .slice none 0 0] 55) = V14 at *
          clear hV
          generalize w13.heap.size = qr2 at *
          refine (same41_c V14 ov4 ov4 10 11 qn qr2 [] [] A14.out XR.out).mono ?_
          rintro e w15 ⟨rfl, hB⟩
          have S15 := Lib.hid (S14.out.next hB)
          have Z15 := Lib.hid (Z14.out.next hB)
          clear hB S14 Z14 A14 XR
          obtain ⟨trr, xr⟩ := zero_ref w15 ov4 12
          have S16 := Lib.hid (S15.out.tr trr (by decide) (by decide) (by decide) (by decide))
          have Z16 := Lib.hid (Z15.out.other trr (by decide))
          have XR := Lib.hid xr
          clear trr xr S15 Z15
          generalize tagAt ov4 w15.heap.size 12 = ov5 at *
          go_wp2_with fail
          generalize hV : w15.alloc (.cells #[.slice none 0 0, .slice none 0 0] 55) = V16 at *
          clear hV
          generalize w15.heap.size = qr3 at *
          refine (same41_c V16 ov5 ov5 8 12 qz qr3 [] [] Z16.out XR.out).mono ?_
          rintro e w17 ⟨rfl, hB⟩
          have S17 := Lib.hid (S16.out.next hB)
          clear hB S16 Z16 XR
          go_wp2_with fail
          refine (rnew_c A n c ids0 w17 ov5 0 13 S17.out.r Hn.out (by simp only [maxLen]; omega) (by decide)).mono ?_
          rintro e w18 ⟨ov6, qy, rfl, try6, _, y6⟩
          rw [HN.out.1, HN.out.2] at y6
          have S18 := Lib.hid (S17.out.tr try6 (by decide) (by decide) (by decide) (by decide))
          have Y18 := Lib.hid y6
          clear try6 y6 S17
          go_wp2_with fail
          refine (same41_c w18 ov6 ov6 6 13 qb qy L0 la0 S18.out.b Y18.out).mono ?_
          rintro e w19 ⟨rfl, hB⟩
          have S19 := Lib.hid (S18.out.next hB)
          clear hB S18 Y18
          go_wp2_with fail
          refine (same41_c w19 ov6 ov6 1 2 qa qx ids live S19.out.s.a S19.out.s.x).mono ?_
          rintro e w20 ⟨rfl, hB⟩
          have S20 := Lib.hid (S19.out.next hB)
          clear hB S19
          go_wp2_with fail
          go_ret
          exact ⟨rfl, S20.out.s.clean.below⟩
end Go.Proofs.Ytgmlhpkhecbkoaa

