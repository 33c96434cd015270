/-
  counterpaneref01.Cmp: its contract. Condition: both numbers are right.
-/
import Derived.Test.YtifdpcjfjoekmaaC7
namespace Go.Proofs.Ytifdpcjfjoekmaa
open Go.RowKit

@[go_sem ↓] theorem Try.field57_0 (w : World) (b : Bool) (A : Option Addr) (n c : Nat) (x : Int) : (Instr.field 57 (.agg #[.bool b, .slice A n c, .int .i64 x]) 0).run Try.prog w = .ok (.bool b) w := by kernel_rfl
theorem dgs_dg {n : Nat} (h : n < 10 ^ 20) : Dgs (dg n) n 20 := ⟨dg_dig n, dg_vl h, dg_le n⟩
theorem right_exp {m e : Int} (h : RightN m e) : -40 ≤ e ∧ e ≤ 40 := by
  refine ⟨h.elo, ?_⟩
  by_cases h0 : m = 0
  · have := h.zero h0; omega
  · have := h.top h0; omega
theorem slice_of {w : World} {v : Value} {l : List Nat} (h : IntSl w v l) : ∃ A n c, v = .slice A n c := by
  obtain ⟨A, n, c, h, _⟩ := h
  exact ⟨A, n, c, h⟩
set_option maxRecDepth 100000 in
set_option maxHeartbeats 1000000 in
theorem rcmp_c (m e m2 e2 : Int) (h1 : RightN m e) (h2 : RightN m2 e2) (w : World) :
    Calls Try.prog 26 #[.agg #[.int .i64 m, .int .i64 e], .agg #[.int .i64 m2, .int .i64 e2]] w fun x w' => x = .returned (.int .i64 (cmp3 (keyN m e) (keyN m2 e2))) ∧ Below w.heap.size w w' := by
  have H1 := Lib.hid h1
  have H2 := Lib.hid h2
  obtain ⟨a1, a2⟩ := right_exp h1
  obtain ⟨c1, c2⟩ := right_exp h2
  have l1 := h1.lo
  have l2 := h1.hi
  have k1 := h2.lo
  have k2 := h2.hi
  have HRa := Lib.hid (fun W => rright_c m e (by omega) (by omega) (by omega) (by omega) W)
  have HRb := Lib.hid (fun W => rright_c m2 e2 (by omega) (by omega) (by omega) (by omega) W)
  have HOa := Lib.hid (fun W => of_c m e (by omega) (by omega) W)
  have HOb := Lib.hid (fun W => of_c (-m2) e2 (by omega) (by omega) W)
  have HNb := Lib.hid (fun W => neg_c m2 e2 h2 W)
  have HKey := Lib.hid (cmpR_key (m := m) (e := e) (m2 := m2) (e2 := e2) (e0 := emin e e2) (emin_le e e2).1 (emin_le e e2).2 (by rcases emin_or e e2 with h | h <;> omega))
  have HPl := Lib.hid (fun W (va vb : Value) (ha : IntSl W va (dg m.natAbs)) (hb : IntSl W vb (dg (-m2).natAbs)) => plus_c (decide (m < 0)) (decide (-m2 < 0)) va vb e e2 (dg m.natAbs) (dg (-m2).natAbs) m.natAbs (-m2).natAbs W ha hb (dgs_dg (by omega)) (dgs_dg (by omega)) ⟨a1, a2⟩ ⟨c1, c2⟩)
  have HLa := Lib.hid (dg_le m.natAbs)
  have hneg : decide (-m2 < 0) = decide (0 < m2) := decide_eq_decide.2 (by omega)
  rw [hneg] at HKey HPl
  clear hneg
  generalize hXX : m.natAbs * 10 ^ (e - emin e e2).toNat = X at *
  generalize hYY : (-m2).natAbs * 10 ^ (e2 - emin e e2).toNat = Y at *
  clear hXX hYY
  clear h1 h2 a1 a2 c1 c2 l1 l2 k1 k2
  have bV : Below w.heap.size w ((w.alloc (.cells #[.int .i64 m, .int .i64 e] 40)).alloc (.cells #[.int .i64 m2, .int .i64 e2] 40)) := ((Below.refl _ w).alloc (Nat.le_refl _) _).alloc (by simp) _
  have HB := Lib.hid bV
  have bX := Lib.hid ((Blk.new w 40 #[.int .i64 m, .int .i64 e]).alloc (.cells #[.int .i64 m2, .int .i64 e2] 40))
  have bY : Hid (Blk ((w.alloc (.cells #[.int .i64 m, .int .i64 e] 40)).alloc (.cells #[.int .i64 m2, .int .i64 e2] 40)) (w.heap.size + 1) 40 #[.int .i64 m2, .int .i64 e2]) := by
    have := Blk.new (w.alloc (.cells #[.int .i64 m, .int .i64 e] 40)) 40 #[.int .i64 m2, .int .i64 e2]
    rw [World.size_alloc] at this; exact this
  clear bV
  go_enter Try.func26, Try.ntmps26
  go_wp2_with fail
  generalize (w.alloc (.cells #[.int .i64 m, .int .i64 e] 40)).alloc (.cells #[.int .i64 m2, .int .i64 e2] 40) = V at *
  refine (HRa.out V).mono ?_
  rintro x w1 ⟨b, rfl, hb, b1⟩
  obtain rfl : b = true := hb.2 H1.out
  have HB1 := Lib.hid (HB.out.trans (b1.mono HB.out.size))
  have bX1 := Lib.hid (bX.out.kept (b1.block _ bX.out.lt))
  have bY1 := Lib.hid (bY.out.kept (b1.block _ bY.out.lt))
  have cy0 := bY1.out.cell 0
  have cy1 := bY1.out.cell 1
  simp only [List.getElem?_toArray, List.getElem?_cons_zero, List.getElem?_cons_succ] at cy0 cy1
  clear b1 hb bX bY HB
  go_wp2_with fail
  refine (HRb.out w1).mono ?_
  rintro x w2 ⟨b, rfl, hb, b1⟩
  obtain rfl : b = true := hb.2 H2.out
  have HB2 := Lib.hid (HB1.out.trans (b1.mono HB1.out.size))
  have bX2 := Lib.hid (bX1.out.kept (b1.block _ bX1.out.lt))
  have bY2 := Lib.hid (bY1.out.kept (b1.block _ bY1.out.lt))
  clear b1 hb bX1 bY1 HB1 cy0 cy1
  go_wp2_with fail
  have HC : AllCells w2.drew [(⟨w.heap.size, 0, none⟩, .int .i64 m), (⟨w.heap.size, 1, none⟩, .int .i64 e), (⟨w.heap.size + 1, 0, none⟩, .int .i64 m2), (⟨w.heap.size + 1, 1, none⟩, .int .i64 e2)] := ⟨bX2.out.cell 0, bX2.out.cell 1, bY2.out.cell 0, bY2.out.cell 1, trivial⟩
  refine region_free _ [0, 2] 7 (by kernel_rfl) (by kernel_rfl) (by kernel_rfl) (by kernel_rfl) (by kernel_rfl) (fun _ _ _ _ _ h => h) HC ?_
  intro hne hu
  simp only [AllCells] at hu
  simp only [pick, List.take_succ_cons, List.take_zero, List.drop_succ_cons, List.drop_zero, List.cons_append, List.nil_append]
  repeat (go_big_quiet_step (fail))
  refine wpQuiet_nil ?_
  clear hne hu
  refine anyN_oneL 1 (by kernel_rfl) ?_
  simp only [List.take_succ_cons, List.take_zero, List.drop_succ_cons, List.drop_zero]
  go_wp2_with fail
  refine (HOa.out _).mono ?_
  rintro x w3 ⟨v, rfl, b1, r1⟩
  have I1 := Lib.hid (intSl_of_row r1)
  obtain ⟨A1, n1, c1, rfl⟩ := slice_of I1.out
  have HB3 := Lib.hid (HB2.out.drew.trans (b1.mono HB2.out.size))
  have bX3 := Lib.hid (bX2.out.kept (b1.block _ bX2.out.lt))
  have bY3 := Lib.hid (bY2.out.kept (b1.block _ bY2.out.lt))
  have HC3 := AllCells.below HC b1
  clear b1 r1 bX2 bY2 HB2 HC
  go_wp2_with fail
  refine And.intro (fun _ => HC3) ?_
  refine anyN_oneL 3 (by kernel_rfl) ?_
  simp only [List.take_succ_cons, List.take_zero, List.drop_succ_cons, List.drop_zero]
  go_wp2_with fail
  refine (HNb.out _).mono ?_
  rintro x w4 ⟨rfl, b1⟩
  have I2 := Lib.hid (I1.out.next b1)
  have HB4 := Lib.hid (HB3.out.trans (b1.mono HB3.out.size))
  have bX4 := Lib.hid (bX3.out.kept (b1.block _ bX3.out.lt))
  have bY4 := Lib.hid (bY3.out.kept (b1.block _ bY3.out.lt))
  have HC4 := AllCells.below HC3 b1
  clear b1 I1 bX3 bY3 HB3 HC3
  go_wp2_with fail
  refine And.intro (fun _ => HC4) ?_
  refine anyN_oneL 4 (by kernel_rfl) ?_
  simp only [List.take_succ_cons, List.take_zero, List.drop_succ_cons, List.drop_zero]
  go_wp2_with fail
  refine (HOb.out _).mono ?_
  rintro x w5 ⟨v, rfl, b1, r1⟩
  have J3 := Lib.hid (intSl_of_row r1)
  obtain ⟨A2, n2, c2, rfl⟩ := slice_of J3.out
  have I3 := Lib.hid (I2.out.next b1)
  have HB5 := Lib.hid (HB4.out.trans (b1.mono HB4.out.size))
  have bX5 := Lib.hid (bX4.out.kept (b1.block _ bX4.out.lt))
  have bY5 := Lib.hid (bY4.out.kept (b1.block _ bY4.out.lt))
  have HC5 := AllCells.below HC4 b1
  clear b1 r1 I2 bX4 bY4 HB4 HC4
  go_wp2_with fail
  refine And.intro (fun _ => HC5) ?_
  refine anyN_oneL 5 (by kernel_rfl) ?_
  simp only [List.take_succ_cons, List.take_zero, List.drop_succ_cons, List.drop_zero]
  go_wp2_with fail
  refine (HPl.out _ _ _ I3.out J3.out).mono ?_
  rintro x w6 ⟨v, o, rfl, b1, i5, hv5⟩
  obtain ⟨A3, n3, c3, rfl⟩ := slice_of i5
  have HI6 := Lib.hid i5
  have HV6 := Lib.hid hv5
  have HB6 := Lib.hid (HB5.out.trans (b1.mono HB5.out.size))
  have bX6 := Lib.hid (bX5.out.kept (b1.block _ bX5.out.lt))
  have bY6 := Lib.hid (bY5.out.kept (b1.block _ bY5.out.lt))
  have HC6 := AllCells.below HC5 b1
  clear b1 i5 hv5 I3 J3 bX5 bY5 HB5 HC5
  go_wp2_with fail
  refine And.intro (fun _ => HC6) ?_
  refine anyN_oneL 6 (by kernel_rfl) ?_
  simp only [List.take_succ_cons, List.take_zero, List.drop_succ_cons, List.drop_zero]
  go_wp2_with fail
  refine And.intro (fun _ => HC6) ?_
  refine anyN_oneL 7 (by kernel_rfl) ?_
  simp only [List.take_succ_cons, List.take_zero, List.drop_succ_cons, List.drop_zero]
  go_wp2_with fail
  obtain ⟨AS, nS, cS, e6, hnS, hcS, hmS, -, hRS⟩ := HI6.out
  cases e6
  have HNS := Lib.hid hnS
  have hlen : Hid (o.length = n3) := Lib.hid hnS.symm
  clear hnS
  refine (strip_c A3 n3 c3 o w6 hRS hlen.out hcS hmS).mono ?_
  rintro x w7 ⟨rfl, AT, cT, rfl⟩
  clear hRS hcS hmS
  obtain ⟨L, hL⟩ : ∃ L, (stripL o).length = L := ⟨_, rfl⟩
  rw [hL]
  have HL := Lib.hid hL
  clear hL
  go_wp2_with fail
  refine And.intro (fun _ => HC6) ?_
  refine anyN_oneL 8 (by kernel_rfl) ?_
  simp only [List.take_succ_cons, List.take_zero, List.drop_succ_cons, List.drop_zero]
  go_wp2_with fail
  refine And.intro (fun _ => HC6) ?_
  refine ⟨by kernel_rfl, ?_⟩
  clear HC6
  by_cases hz : L = 0
  · have HZ : Hid (cmp3 (keyN m e) (keyN m2 e2) = 0) := Lib.hid (by
      rw [← HKey.out]
      have h0 : (plusN (decide (m < 0)) (decide (0 < m2)) X Y).2 = 0 := by
        rw [← HV6.out]
        exact (stripL_nil o).1 (List.length_eq_zero_iff.1 (HL.out.trans hz))
      exact if_pos h0)
    subst hz
    go_wp2_with fail
    go_ret
    exact ⟨ret_i64 HZ.out.symm, HB6.out⟩
  · have HZ : Hid (cmp3 (keyN m e) (keyN m2 e2) = if (plusN (decide (m < 0)) (decide (0 < m2)) X Y).1 then -1 else 1) := Lib.hid (by
      rw [← HKey.out]
      have h0 : ¬ (plusN (decide (m < 0)) (decide (0 < m2)) X Y).2 = 0 := by
        rw [← HV6.out]
        exact fun hh => hz (by rw [← HL.out, (stripL_nil o).2 hh]; rfl)
      exact if_neg h0)
    have hzb : ((L : Int) == 0) = false := by rw [beq_eq_false_iff_ne]; omega
    obtain ⟨ng, hng⟩ : ∃ ng, (plusN (decide (m < 0)) (decide (0 < m2)) X Y).1 = ng := ⟨_, rfl⟩
    have HNG := Lib.hid hng
    rw [hng] at HZ
    clear hng HV6 hz HL HNS hlen HI6
    go_wp2_with fail
    generalize w7 = wv at *
    have bX2 := Lib.hid (bX6.out)
    have bY2 := Lib.hid (bY6.out)
    have HB2 := Lib.hid HB6.out
    clear bX6 bY6 HB6
    have HC : AllCells wv.drew [(⟨w.heap.size, 0, none⟩, .int .i64 m), (⟨w.heap.size, 1, none⟩, .int .i64 e), (⟨w.heap.size + 1, 0, none⟩, .int .i64 m2), (⟨w.heap.size + 1, 1, none⟩, .int .i64 e2)] := ⟨bX2.out.cell 0, bX2.out.cell 1, bY2.out.cell 0, bY2.out.cell 1, trivial⟩
    refine region_free _ [0, 2] 5 (by kernel_rfl) (by kernel_rfl) (by kernel_rfl) (by kernel_rfl) (by kernel_rfl) (fun _ _ _ _ _ h => h) HC ?_
    intro hne hu
    simp only [AllCells] at hu
    simp only [pick, List.take_succ_cons, List.take_zero, List.drop_succ_cons, List.drop_zero, List.cons_append, List.nil_append]
    repeat (go_big_quiet_step (fail))
    refine wpQuiet_nil ?_
    clear hne hu
    refine anyN_oneL 1 (by kernel_rfl) ?_
    simp only [List.take_succ_cons, List.take_zero, List.drop_succ_cons, List.drop_zero]
    go_wp2_with fail
    refine (HOa.out _).mono ?_
    rintro x w3 ⟨v, rfl, b1, r1⟩
    have I1 := Lib.hid (intSl_of_row r1)
    obtain ⟨A1, n1, c1, rfl⟩ := slice_of I1.out
    have HB3 := Lib.hid (HB2.out.drew.trans (b1.mono HB2.out.size))
    have bX3 := Lib.hid (bX2.out.kept (b1.block _ bX2.out.lt))
    have bY3 := Lib.hid (bY2.out.kept (b1.block _ bY2.out.lt))
    have HC3 := AllCells.below HC b1
    clear b1 r1 bX2 bY2 HB2 HC
    go_wp2_with fail
    refine And.intro (fun _ => HC3) ?_
    refine anyN_oneL 3 (by kernel_rfl) ?_
    simp only [List.take_succ_cons, List.take_zero, List.drop_succ_cons, List.drop_zero]
    go_wp2_with fail
    refine (HNb.out _).mono ?_
    rintro x w4 ⟨rfl, b1⟩
    have I2 := Lib.hid (I1.out.next b1)
    have HB4 := Lib.hid (HB3.out.trans (b1.mono HB3.out.size))
    have bX4 := Lib.hid (bX3.out.kept (b1.block _ bX3.out.lt))
    have bY4 := Lib.hid (bY3.out.kept (b1.block _ bY3.out.lt))
    have HC4 := AllCells.below HC3 b1
    clear b1 I1 bX3 bY3 HB3 HC3
    go_wp2_with fail
    refine And.intro (fun _ => HC4) ?_
    refine anyN_oneL 4 (by kernel_rfl) ?_
    simp only [List.take_succ_cons, List.take_zero, List.drop_succ_cons, List.drop_zero]
    go_wp2_with fail
    refine (HOb.out _).mono ?_
    rintro x w5 ⟨v, rfl, b1, r1⟩
    have J3 := Lib.hid (intSl_of_row r1)
    obtain ⟨A2, n2, c2, rfl⟩ := slice_of J3.out
    have I3 := Lib.hid (I2.out.next b1)
    have HB5 := Lib.hid (HB4.out.trans (b1.mono HB4.out.size))
    have bX5 := Lib.hid (bX4.out.kept (b1.block _ bX4.out.lt))
    have bY5 := Lib.hid (bY4.out.kept (b1.block _ bY4.out.lt))
    have HC5 := AllCells.below HC4 b1
    clear b1 r1 I2 bX4 bY4 HB4 HC4
    go_wp2_with fail
    refine And.intro (fun _ => HC5) ?_
    refine anyN_oneL 5 (by kernel_rfl) ?_
    simp only [List.take_succ_cons, List.take_zero, List.drop_succ_cons, List.drop_zero]
    go_wp2_with fail
    refine (HPl.out _ _ _ I3.out J3.out).mono ?_
    rintro x w6 ⟨v, o, rfl, b1, i5, hv5⟩
    obtain ⟨A3, n3, c3, rfl⟩ := slice_of i5
    have HI6 := Lib.hid i5
    have HV6 := Lib.hid hv5
    have HB6 := Lib.hid (HB5.out.trans (b1.mono HB5.out.size))
    have bX6 := Lib.hid (bX5.out.kept (b1.block _ bX5.out.lt))
    have bY6 := Lib.hid (bY5.out.kept (b1.block _ bY5.out.lt))
    have HC6 := AllCells.below HC5 b1
    clear b1 i5 hv5 I3 J3 bX5 bY5 HB5 HC5
    go_wp2_with fail
    refine And.intro (fun _ => HC6) ?_
    rw [HNG.out]
    refine anyN_more [6] 0 (by kernel_rfl) (by kernel_rfl) (by kernel_rfl) (by kernel_rfl) (fun _ _ _ _ _ h => h) HC6 ?_
    intro hne hu
    simp only [AllCells] at hu
    simp only [pick, List.take_succ_cons, List.take_zero, List.drop_succ_cons, List.drop_zero, List.cons_append, List.nil_append]
    repeat (go_big_quiet_step (fail))
    refine wpQuiet_nil ?_
    clear hne hu
    refine ⟨by kernel_rfl, ?_⟩
    cases ng
    · go_wp2_with fail
      go_ret
      exact ⟨ret_i64 (by rw [HZ.out]; rfl), HB6.out⟩
    · go_wp2_with fail
      go_ret
      exact ⟨ret_i64 (by rw [HZ.out]; rfl), HB6.out⟩
end Go.Proofs.Ytifdpcjfjoekmaa
