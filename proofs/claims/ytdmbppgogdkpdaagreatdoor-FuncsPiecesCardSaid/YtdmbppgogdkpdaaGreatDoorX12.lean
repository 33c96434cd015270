/-
  num.Neg, num.Sub: their contracts. Conditions: the table of powers of ten reads as the program lays it; the numbers are right.
  math/bits.Div64 of a small dividend; num.Mul: their contracts. Conditions: the table of powers of ten reads as the program lays it; the numbers are right; what Div64 does of the two's product is said.
-/
import Derived.Test.YtdmbppgogdkpdaaGreatDoorX10
set_option linter.unusedSectionVars false
namespace Go.Proofs.YtdmbppgogdkpdaaGreatDoor
open Go.RowKit
theorem RightN.neg {m e : Int} (h : RightN m e) : RightN (-m) e := by
  have h0 := h.zero
  have h1 := h.lo
  have h2 := h.hi
  have h3 := h.mod
  have h4 := h.elo
  have h5 := h.top
  refine ⟨fun hm => h0 (by omega), by omega, by omega, fun hm => ?_, by omega, fun hm => ?_⟩
  · have := h3 (by omega)
    omega
  · have := h5 (by omega)
    rwa [Int.natAbs_neg]
theorem below_put2 {n : Nat} {w w1 : World} (h : Below n w w1) {X : Nat} (hX : n ≤ X) (a b : Value) : Below n w (put2 w1 X a b) := (h.setCell (p := ⟨X, 0, none⟩) hX a).setCell (p := ⟨X, 1, none⟩) hX b
/-- A number in a box, and a box for an answer behind it. -/
structure Duo (w V : World) (m e : Int) : Prop where
  a : Blk V w.heap.size 39 #[.int .i64 m, .int .i64 e]
  c : Blk V (w.heap.size + 1) 39 #[.int .i64 0, .int .i64 0]
  below : Below w.heap.size w V
theorem Duo.next {w V V' : World} {m e : Int} (h : Duo w V m e) (k : Below V.heap.size V V') : Duo w V' m e :=
  ⟨h.a.kept (k.block _ h.a.lt), h.c.kept (k.block _ h.c.lt), h.below.trans (k.mono h.below.size)⟩
theorem Duo.start (w : World) (m e : Int) : Duo w ((w.alloc (.cells #[.int .i64 m, .int .i64 e] 39)).alloc (.cells #[.int .i64 0, .int .i64 0] 39)) m e := by
  refine ⟨((Blk.new w 39 #[.int .i64 m, .int .i64 e]).alloc (.cells #[.int .i64 0, .int .i64 0] 39)), ?_, (((Below.refl _ w).alloc (Nat.le_refl _) _).alloc (by simp) _)⟩
  have := (Blk.new (w.alloc (.cells #[.int .i64 m, .int .i64 e] 39)) 39 #[.int .i64 0, .int .i64 0])
  simpa using this
set_option maxRecDepth 100000 in
set_option maxHeartbeats 1000000 in
theorem neg_c (m e : Int) (h : RightN m e) (w : World) : Calls Tryz.prog 109 #[.agg #[.int .i64 m, .int .i64 e]] w fun x w' => x = .returned (.agg #[.int .i64 (-m), .int .i64 e]) ∧ Below w.heap.size w w' := by
  have hlo := h.lo
  have hhi := h.hi
  have H := Lib.hid h
  have D0 := Lib.hid (Duo.start w m e)
  clear h
  go_enter Tryz.func109, Tryz.ntmps109
  go_wp2_with fail
  refine (rightB_c m e H.out _).mono ?_
  rintro x w1 ⟨rfl, hb⟩
  have D1 := Lib.hid (D0.out.next hb)
  have BA := Lib.hid D1.out.a
  have BC := Lib.hid D1.out.c
  clear hb D0
  have a0 := BA.out.cell 0
  have a1 := BA.out.cell 1
  have u0 := BA.out.frozen 0
  have u1 := BA.out.frozen 1
  simp only [List.getElem?_toArray, List.getElem?_cons_zero, List.getElem?_cons_succ] at a0 a1
  have k0 := BC.out.cell 0
  have k1 := BC.out.cell 1
  have f0 := BC.out.frozen 0
  have f1 := BC.out.frozen 1
  simp only [List.getElem?_toArray, List.getElem?_cons_zero, List.getElem?_cons_succ] at k0 k1
  go_wp2_with fail
  change bodyPost _ _ _ _ _ (put2 w1 (w.heap.size + 1) (.int .i64 (-m)) (.int .i64 e))
  have bX2 := blk_put2 BC.out (.int .i64 (-m)) (.int .i64 e)
  have HO9 := Lib.hid (below_put2 D1.out.below (Nat.le_succ _) (.int .i64 (-m)) (.int .i64 e))
  generalize put2 w1 (w.heap.size + 1) (.int .i64 (-m)) (.int .i64 e) = W2 at *
  have d0 := bX2.cell 0
  have d1 := bX2.cell 1
  simp only [List.getElem?_toArray, List.getElem?_cons_zero, List.getElem?_cons_succ] at d0 d1
  exact bodyPost_ret (v := .agg #[.int .i64 (-m), .int .i64 e]) (by simp [results, Tryz.f109, go_sem, d0, d1]) rfl ⟨rfl, HO9.out⟩
noncomputable def subF (m1 e1 m2 e2 : Int) : Option (Int × Int) := addF m1 e1 (-m2) e2
set_option maxRecDepth 100000 in
set_option maxHeartbeats 1000000 in
theorem sub_c (m1 e1 m2 e2 : Int) (r1 : RightN m1 e1) (r2 : RightN m2 e2) (w : World) (htab : PowT w) :
    Calls Tryz.prog 63 #[.agg #[.int .i64 m1, .int .i64 e1], .agg #[.int .i64 m2, .int .i64 e2]] w fun x w' => x = .returned (optV (subF m1 e1 m2 e2)) ∧ Below w.heap.size w w' := by
  have HT := Lib.hid htab
  have R1 := Lib.hid r1
  have R2 := Lib.hid r2
  have T0 := Lib.hid (Trip.start w m1 e1 m2 e2)
  clear htab r1 r2
  go_enter Tryz.func63, Tryz.ntmps63
  go_wp2_with fail
  refine (rightB_c m1 e1 R1.out _).mono ?_
  rintro x w1 ⟨rfl, hb⟩
  have T1 := Lib.hid (T0.out.next hb)
  clear hb T0
  have c0 := T1.out.a.cell 0
  have c1 := T1.out.a.cell 1
  have c2 := T1.out.b.cell 0
  have c3 := T1.out.b.cell 1
  simp only [List.getElem?_toArray, List.getElem?_cons_zero, List.getElem?_cons_succ] at c0 c1 c2 c3
  go_wp2_with fail
  refine (rightB_c m2 e2 R2.out _).mono ?_
  rintro x w2 ⟨rfl, hb⟩
  have T2 := Lib.hid (T1.out.next hb)
  clear hb T1 c0 c1 c2 c3
  have c0 := T2.out.a.cell 0
  have c1 := T2.out.a.cell 1
  have c2 := T2.out.b.cell 0
  have c3 := T2.out.b.cell 1
  simp only [List.getElem?_toArray, List.getElem?_cons_zero, List.getElem?_cons_succ] at c0 c1 c2 c3
  go_wp2_with fail
  have T3 := Lib.hid (T2.out.next ((Below.refl _ w2).drew))
  have HCC : Hid (∀ W, Trip w W m1 e1 m2 e2 → AllCells W [(⟨w.heap.size, 0, none⟩, .int .i64 m1), (⟨w.heap.size, 1, none⟩, .int .i64 e1), (⟨w.heap.size + 1, 0, none⟩, .int .i64 m2), (⟨w.heap.size + 1, 1, none⟩, .int .i64 e2)]) := Lib.hid (fun W h => ⟨h.a.cell 0, h.a.cell 1, h.b.cell 0, h.b.cell 1, trivial⟩)
  have HC := HCC.out _ T3.out
  clear T2 c0 c1 c2 c3
  refine region_free _ [0, 1] 6 (by kernel_rfl) (by kernel_rfl) (by kernel_rfl) (by kernel_rfl) (by kernel_rfl) (fun _ _ _ _ _ h => h) HC ?_
  intro hne hu
  simp only [AllCells] at hu
  simp only [pick, List.take_succ_cons, List.take_zero, List.drop_succ_cons, List.drop_zero, List.cons_append, List.nil_append]
  repeat (go_big_quiet_step (fail))
  refine wpQuiet_nil ?_
  clear hne hu
  clear HC
  refine anyN_oneL 2 (by kernel_rfl) ?_
  simp only [List.take_succ_cons, List.take_zero, List.drop_succ_cons, List.drop_zero]
  go_wp2_with fail
  refine (neg_c m2 e2 R2.out _).mono ?_
  rintro x w3 ⟨rfl, hb⟩
  have T4 := Lib.hid (T3.out.next hb)
  clear hb T3
  go_wp2_with fail
  refine And.intro (fun _ => HCC.out _ T4.out) ?_
  refine anyN_oneL 3 (by kernel_rfl) ?_
  simp only [List.take_succ_cons, List.take_zero, List.drop_succ_cons, List.drop_zero]
  go_wp2_with fail
  refine (add_c m1 e1 (-m2) e2 R1.out R2.out.neg _ (HT.out.next T4.out.below)).mono ?_
  rintro x w4 ⟨rfl, hb⟩
  have T5 := Lib.hid (T4.out.next hb)
  have HR : Hid (subF m1 e1 m2 e2 = addF m1 e1 (-m2) e2) := rfl
  clear hb T4
  generalize addF m1 e1 (-m2) e2 = R at *
  cases R with
  | none =>
    simp only [optV]
    go_wp2_with fail
    refine And.intro (fun _ => HCC.out _ T5.out) ?_
    refine anyN_more [4, 5] 2 (by kernel_rfl) (by kernel_rfl) (by kernel_rfl) (by kernel_rfl) (fun _ _ _ _ _ h => h) (HCC.out _ T5.out) ?_
    intro hne hu
    simp only [AllCells] at hu
    simp only [pick, List.take_succ_cons, List.take_zero, List.drop_succ_cons, List.drop_zero, List.cons_append, List.nil_append]
    repeat (go_big_quiet_step (fail))
    refine wpQuiet_nil ?_
    clear hne hu
    refine anyN_oneL 6 (by kernel_rfl) ?_
    simp only [List.take_succ_cons, List.take_zero, List.drop_succ_cons, List.drop_zero]
    have f0 := T5.out.c.frozen 0
    have f1 := T5.out.c.frozen 1
    have k0 := T5.out.c.cell 0
    have k1 := T5.out.c.cell 1
    simp only [List.getElem?_toArray, List.getElem?_cons_zero, List.getElem?_cons_succ] at k0 k1
    go_wp2_with fail
    change (_ → AllCells (put2 w4 (w.heap.size + 1 + 1) (.int .i64 0) (.int .i64 0)) _) ∧ wpAnyN _ _ _ _ _ _ _ _ _ (put2 w4 (w.heap.size + 1 + 1) (.int .i64 0) (.int .i64 0))
    clear f0 f1 k0 k1
    have bX2 := Lib.hid (blk_put2 T5.out.c (.int .i64 0) (.int .i64 0))
    have HO9 := Lib.hid (below_put2 T5.out.below (X := w.heap.size + 1 + 1) (by omega) (.int .i64 0) (.int .i64 0))
    have HC9 : AllCells (put2 w4 (w.heap.size + 1 + 1) (.int .i64 0) (.int .i64 0)) [(⟨w.heap.size, 0, none⟩, .int .i64 m1), (⟨w.heap.size, 1, none⟩, .int .i64 e1), (⟨w.heap.size + 1, 0, none⟩, .int .i64 m2), (⟨w.heap.size + 1, 1, none⟩, .int .i64 e2)] := by
      have ha := ((T5.out.a.far (p := ⟨w.heap.size + 1 + 1, 0, none⟩) (by simp; omega) (.int .i64 0)).far (p := ⟨w.heap.size + 1 + 1, 1, none⟩) (by simp; omega) (.int .i64 0))
      have hb := ((T5.out.b.far (p := ⟨w.heap.size + 1 + 1, 0, none⟩) (by simp) (.int .i64 0)).far (p := ⟨w.heap.size + 1 + 1, 1, none⟩) (by simp) (.int .i64 0))
      exact ⟨ha.cell 0, ha.cell 1, hb.cell 0, hb.cell 1, trivial⟩
    generalize put2 w4 (w.heap.size + 1 + 1) (.int .i64 0) (.int .i64 0) = W2 at *
    refine And.intro (fun _ => HC9) ?_
    refine anyN_oneL 7 (by kernel_rfl) ?_
    simp only [List.take_succ_cons, List.take_zero, List.drop_succ_cons, List.drop_zero]
    go_wp2_with fail
    refine And.intro (fun _ => HC9) ?_
    refine ⟨by kernel_rfl, ?_⟩
    go_wp2_with fail
    have d0 := bX2.out.cell 0
    have d1 := bX2.out.cell 1
    simp only [List.getElem?_toArray, List.getElem?_cons_zero, List.getElem?_cons_succ] at d0 d1
    exact bodyPost_ret (v := .tuple #[.agg #[(.int .i64 0), (.int .i64 0)], .bool false]) (by simp [results, Tryz.f63, go_sem, d0, d1]) rfl ⟨by rw [HR.out]; rfl, HO9.out⟩
  | some p =>
    obtain ⟨p1, p2⟩ := p
    simp only [optV]
    go_wp2_with fail
    refine And.intro (fun _ => HCC.out _ T5.out) ?_
    refine anyN_more [4, 5] 2 (by kernel_rfl) (by kernel_rfl) (by kernel_rfl) (by kernel_rfl) (fun _ _ _ _ _ h => h) (HCC.out _ T5.out) ?_
    intro hne hu
    simp only [AllCells] at hu
    simp only [pick, List.take_succ_cons, List.take_zero, List.drop_succ_cons, List.drop_zero, List.cons_append, List.nil_append]
    repeat (go_big_quiet_step (fail))
    refine wpQuiet_nil ?_
    clear hne hu
    refine anyN_oneL 6 (by kernel_rfl) ?_
    simp only [List.take_succ_cons, List.take_zero, List.drop_succ_cons, List.drop_zero]
    have f0 := T5.out.c.frozen 0
    have f1 := T5.out.c.frozen 1
    have k0 := T5.out.c.cell 0
    have k1 := T5.out.c.cell 1
    simp only [List.getElem?_toArray, List.getElem?_cons_zero, List.getElem?_cons_succ] at k0 k1
    go_wp2_with fail
    change (_ → AllCells (put2 w4 (w.heap.size + 1 + 1) (.int .i64 p1) (.int .i64 p2)) _) ∧ wpAnyN _ _ _ _ _ _ _ _ _ (put2 w4 (w.heap.size + 1 + 1) (.int .i64 p1) (.int .i64 p2))
    clear f0 f1 k0 k1
    have bX2 := Lib.hid (blk_put2 T5.out.c (.int .i64 p1) (.int .i64 p2))
    have HO9 := Lib.hid (below_put2 T5.out.below (X := w.heap.size + 1 + 1) (by omega) (.int .i64 p1) (.int .i64 p2))
    have HC9 : AllCells (put2 w4 (w.heap.size + 1 + 1) (.int .i64 p1) (.int .i64 p2)) [(⟨w.heap.size, 0, none⟩, .int .i64 m1), (⟨w.heap.size, 1, none⟩, .int .i64 e1), (⟨w.heap.size + 1, 0, none⟩, .int .i64 m2), (⟨w.heap.size + 1, 1, none⟩, .int .i64 e2)] := by
      have ha := ((T5.out.a.far (p := ⟨w.heap.size + 1 + 1, 0, none⟩) (by simp; omega) (.int .i64 p1)).far (p := ⟨w.heap.size + 1 + 1, 1, none⟩) (by simp; omega) (.int .i64 p2))
      have hb := ((T5.out.b.far (p := ⟨w.heap.size + 1 + 1, 0, none⟩) (by simp) (.int .i64 p1)).far (p := ⟨w.heap.size + 1 + 1, 1, none⟩) (by simp) (.int .i64 p2))
      exact ⟨ha.cell 0, ha.cell 1, hb.cell 0, hb.cell 1, trivial⟩
    generalize put2 w4 (w.heap.size + 1 + 1) (.int .i64 p1) (.int .i64 p2) = W2 at *
    refine And.intro (fun _ => HC9) ?_
    refine anyN_oneL 7 (by kernel_rfl) ?_
    simp only [List.take_succ_cons, List.take_zero, List.drop_succ_cons, List.drop_zero]
    go_wp2_with fail
    refine And.intro (fun _ => HC9) ?_
    refine ⟨by kernel_rfl, ?_⟩
    go_wp2_with fail
    have d0 := bX2.out.cell 0
    have d1 := bX2.out.cell 1
    simp only [List.getElem?_toArray, List.getElem?_cons_zero, List.getElem?_cons_succ] at d0 d1
    exact bodyPost_ret (v := .tuple #[.agg #[(.int .i64 p1), (.int .i64 p2)], .bool true]) (by simp [results, Tryz.f63, go_sem, d0, d1]) rfl ⟨by rw [HR.out]; rfl, HO9.out⟩
end Go.Proofs.YtdmbppgogdkpdaaGreatDoor
namespace Go.Proofs.YtdmbppgogdkpdaaGreatDoor
open Go.RowKit
theorem wrapU {k : Nat} (h : k < 18446744073709551616) : IntKind.u64.wrap (k : Int) = (k : Int) := by
  simp only [IntKind.wrap, IntKind.signed, IntKind.bits, Bool.false_and, Bool.false_eq_true, if_false]
  omega
set_option maxRecDepth 100000 in
set_option maxHeartbeats 1000000 in
theorem div64_small (lo y : Nat) (hl : lo < 18446744073709551616) (hy : 0 < y) (hy2 : y < 18446744073709551616) (w : World) :
    Calls Tryz.prog 112 #[.int .u64 0, .int .u64 lo, .int .u64 y] w fun x w' => x = .returned (.tuple #[.int .u64 ((lo / y : Nat) : Int), .int .u64 ((lo % y : Nat) : Int)]) ∧ Below w.heap.size w w' := by
  have e1 : decide ((y : Int) = 0) = false := by simp; omega
  have e2 : decide ((y : Int) ≤ 0) = false := by simp; omega
  go_enter Tryz.func112, Tryz.ntmps112
  go_wp2_with fail
  have HC : AllCells w.drew [] := trivial
  have e3 : ((y : Int) = 0) = False := by simp; omega
  refine region_free _ [0, 1, 2, 3, 4, 5, 6, 7] 0 (by kernel_rfl) (by kernel_rfl) (by kernel_rfl) (by kernel_rfl) (by kernel_rfl) (fun _ _ _ _ _ h => h) HC ?_
  intro hne hu
  simp only [AllCells] at hu
  simp only [pick, List.take_succ_cons, List.take_zero, List.drop_succ_cons, List.drop_zero, List.cons_append, List.nil_append]
  repeat (go_big_quiet_step (fail))
  refine wpQuiet_nil ?_
  clear hne hu
  refine ⟨by kernel_rfl, ?_⟩
  go_wp2_with fail
  have hq : IntKind.u64.wrap ((lo : Int) / (y : Int)) = ((lo / y : Nat) : Int) := by
    have h1 : lo / y ≤ lo := Nat.div_le_self _ _
    rw [← Int.natCast_ediv]
    exact wrapU (by omega)
  have hr : (lo : Int) % (y : Int) = ((lo % y : Nat) : Int) := (Int.natCast_emod _ _).symm
  rw [hq, hr]
  exact bodyPost_ret (v := .tuple #[.int .u64 ((lo / y : Nat) : Int), .int .u64 ((lo % y : Nat) : Int)]) (by simp [results, Tryz.f112, go_sem]) rfl ⟨rfl, (Below.refl _ w).drew⟩
noncomputable def mulF (m1 e1 m2 e2 : Int) (q r : Nat) : Option (Int × Int) := roundF (!(decide (m1 < 0) == decide (m2 < 0))) (digL q ++ (digL (1000000000000000 + r)).drop 1) (e1 + e2)
set_option maxRecDepth 100000 in
set_option maxHeartbeats 4000000 in
theorem mul_c (m1 e1 m2 e2 : Int) (r1 : RightN m1 e1) (r2 : RightN m2 e2) (q r : Nat) (hq : q < 18446744073709551616) (hr : r < 1000000000000000)
    (hdiv : ∀ W, Calls Tryz.prog 112 #[.int .u64 ((m1.natAbs * m2.natAbs / 18446744073709551616 : Nat) : Int), .int .u64 ((m1.natAbs * m2.natAbs % 18446744073709551616 : Nat) : Int), .int .u64 1000000000000000] W fun x w' => x = .returned (.tuple #[.int .u64 (q : Int), .int .u64 (r : Int)]) ∧ Below W.heap.size W w')
    (w : World) (htab : PowT w) :
    Calls Tryz.prog 64 #[.agg #[.int .i64 m1, .int .i64 e1], .agg #[.int .i64 m2, .int .i64 e2]] w fun x w' => x = .returned (optV (mulF m1 e1 m2 e2 q r)) ∧ Below w.heap.size w w' := by
  have HT := Lib.hid htab
  have R1 := Lib.hid r1
  have R2 := Lib.hid r2
  have l1 := r1.elo
  have l2 := r2.elo
  have t1 : e1 ≤ 40 := by
    by_cases h : m1 = 0
    · rw [r1.zero h]; omega
    · have := r1.top h; omega
  have t2 : e2 ≤ 40 := by
    by_cases h : m2 = 0
    · rw [r2.zero h]; omega
    · have := r2.top h; omega
  have i1 := r1.lo
  have i2 := r1.hi
  have i3 := r2.lo
  have i4 := r2.hi
  have T0 := Lib.hid (Trip.start w m1 e1 m2 e2)
  have HM : Hid (∀ W, Calls Tryz.prog 110 #[.int .u64 m1.natAbs, .int .u64 m2.natAbs] W fun e w' => e = .returned (.tuple #[.int .u64 ((m1.natAbs * m2.natAbs / 18446744073709551616 : Nat) : Int), .int .u64 ((m1.natAbs * m2.natAbs % 18446744073709551616 : Nat) : Int)]) ∧ w' = W) := Lib.hid (fun W => Tryz.bits_Mul64 m1.natAbs m2.natAbs (by omega) (by omega) W)
  have HD := Lib.hid hdiv
  generalize m1.natAbs * m2.natAbs / 18446744073709551616 = hi at *
  generalize m1.natAbs * m2.natAbs % 18446744073709551616 = lo at *
  clear htab r1 r2 hdiv
  go_enter Tryz.func64, Tryz.ntmps64
  go_wp2_with fail
  refine (rightB_c m1 e1 R1.out _).mono ?_
  rintro x w1 ⟨rfl, hb⟩
  have T1 := Lib.hid (T0.out.next hb)
  clear hb T0
  have c0 := T1.out.a.cell 0
  have c1 := T1.out.a.cell 1
  have c2 := T1.out.b.cell 0
  have c3 := T1.out.b.cell 1
  simp only [List.getElem?_toArray, List.getElem?_cons_zero, List.getElem?_cons_succ] at c0 c1 c2 c3
  go_wp2_with fail
  refine (rightB_c m2 e2 R2.out _).mono ?_
  rintro x w2 ⟨rfl, hb⟩
  have T2 := Lib.hid (T1.out.next hb)
  clear hb T1 c0 c1 c2 c3
  have c0 := T2.out.a.cell 0
  have c1 := T2.out.a.cell 1
  have c2 := T2.out.b.cell 0
  have c3 := T2.out.b.cell 1
  simp only [List.getElem?_toArray, List.getElem?_cons_zero, List.getElem?_cons_succ] at c0 c1 c2 c3
  go_wp2_with fail
  have T3 := Lib.hid (T2.out.next ((Below.refl _ w2).drew))
  have HCC : Hid (∀ W, Trip w W m1 e1 m2 e2 → AllCells W [(⟨w.heap.size, 0, none⟩, .int .i64 m1), (⟨w.heap.size, 1, none⟩, .int .i64 e1), (⟨w.heap.size + 1, 0, none⟩, .int .i64 m2), (⟨w.heap.size + 1, 1, none⟩, .int .i64 e2)]) := Lib.hid (fun W h => ⟨h.a.cell 0, h.a.cell 1, h.b.cell 0, h.b.cell 1, trivial⟩)
  have HC := HCC.out _ T3.out
  clear T2 c0 c1 c2 c3
  refine region_free _ [0, 1, 3, 4] 8 (by kernel_rfl) (by kernel_rfl) (by kernel_rfl) (by kernel_rfl) (by kernel_rfl) (fun _ _ _ _ _ h => h) HC ?_
  intro hne hu
  simp only [AllCells] at hu
  simp only [pick, List.take_succ_cons, List.take_zero, List.drop_succ_cons, List.drop_zero, List.cons_append, List.nil_append]
  repeat (go_big_quiet_step (fail))
  refine wpQuiet_nil ?_
  clear hne hu
  refine anyN_oneL 2 (by kernel_rfl) ?_
  simp only [List.take_succ_cons, List.take_zero, List.drop_succ_cons, List.drop_zero]
  go_wp2_with (go_at_call 111; refine (sizeAny_c _ (by omega) (by omega) _).mono ?_; rintro x w' ⟨rfl, rfl⟩)
  refine And.intro (fun _ => HC) ?_
  refine anyN_oneL 5 (by kernel_rfl) ?_
  simp only [List.take_succ_cons, List.take_zero, List.drop_succ_cons, List.drop_zero]
  go_wp2_with (go_at_call 111; refine (sizeAny_c _ (by omega) (by omega) _).mono ?_; rintro x w' ⟨rfl, rfl⟩)
  refine And.intro (fun _ => HC) ?_
  refine anyN_oneL 6 (by kernel_rfl) ?_
  simp only [List.take_succ_cons, List.take_zero, List.drop_succ_cons, List.drop_zero]
  go_wp2_with (go_at_call 110; refine (HM.out _).mono ?_; rintro x w' ⟨rfl, rfl⟩)
  refine And.intro (fun _ => HC) ?_
  refine anyN_more [7, 8, 9, 10, 11] 0 (by kernel_rfl) (by kernel_rfl) (by kernel_rfl) (by kernel_rfl) (fun _ _ _ _ _ h => h) HC ?_
  intro hne hu
  simp only [AllCells] at hu
  simp only [pick, List.take_succ_cons, List.take_zero, List.drop_succ_cons, List.drop_zero, List.cons_append, List.nil_append]
  repeat (go_big_quiet_step (fail))
  refine wpQuiet_nil ?_
  clear hne hu
  refine ⟨by kernel_rfl, ?_⟩
  clear HC
  go_wp2_with fail
  refine (HD.out _).mono ?_
  rintro x w3 ⟨rfl, hb⟩
  have T4 := Lib.hid (T3.out.next hb)
  clear hb T3 HD HM
  have HDQ := Lib.hid (digitsOf_c q hq w3 (HT.out.next T4.out.below))
  go_wp2_with fail
  refine HDQ.out.mono ?_
  rintro x w4 ⟨BQ, rfl, gQ, bQ, hb⟩
  have T5 := Lib.hid (T4.out.next hb)
  have GQ := Lib.hid (show w.heap.size + 1 + 1 < BQ by have := T4.out.c.lt; omega)
  have SQ := Lib.hid bQ
  have hND : Lib.nDigits (1000000000000000 + r) = 16 := Lib.nDigits_unique 15 _ (by omega) (by omega)
  have HDR : Hid (Calls Tryz.prog 113 #[.int .u64 (1000000000000000 + (r : Int))] w4 (DigsP w4 (1000000000000000 + r))) := by
    have h := digitsOf_c (1000000000000000 + r) (by omega) w4 (HT.out.next T5.out.below)
    rw [show ((1000000000000000 + r : Nat) : Int) = 1000000000000000 + (r : Int) by omega] at h
    exact h
  have HND := Lib.hid hND
  have hq20 := nDigits_20 hq
  clear hb gQ bQ T4 HDQ hND
  go_wp2_with fail
  refine HDR.out.mono ?_
  rintro x w5 ⟨BR, rfl, gR, bR, hb⟩
  rw [HND.out] at bR
  simp only [HND.out]
  have T6 := Lib.hid (T5.out.next hb)
  have bq5 : BytesAt w5 BQ 0 (digL q) := fun i b hib => (hb.cell (p := ⟨BQ, 0 + i, none⟩) SQ.out.lt).trans (SQ.out.bytes i b hib)
  have br5 : BytesAt w5 BR 1 ((digL (1000000000000000 + r)).drop 1) := fun i b hib => by
    rw [List.getElem?_drop] at hib
    have := bR.bytes (1 + i) b hib
    rwa [Nat.zero_add] at this
  obtain ⟨cap, cs, hap, hq1, hq2, hq3⟩ := growB (c := Lib.nDigits q) (c' := 15) bq5 (digL_len q) br5 (n' := 15) (by rw [List.length_drop, digL_len, HND.out]) (by omega) (by omega) 124
  have hbl := ((Below.refl _ w5).drew).alloc (Nat.le_refl _) (.cells cs 5)
  have T7 := Lib.hid (T6.out.next hbl)
  have HN := Lib.hid (show Blk (w5.drew.alloc (.cells cs 5)) w5.heap.size 5 cs from Blk.new w5.drew 5 cs)
  have HQ3 := Lib.hid hq3
  have GN := Lib.hid (show w.heap.size + 1 + 1 < w5.heap.size from T6.out.c.lt)
  have HQ1 := Lib.hid hq1
  have HQ2 := Lib.hid hq2
  clear gR bR hb bq5 br5 T5 T6 hbl hq3 hq1 hq2 HDR SQ GQ
  have HSZ := Lib.hid (show w5.heap.size < (w5.drew.alloc (.cells cs 5)).heap.size from HN.out.lt)
  generalize hV7 : w5.drew.alloc (.cells cs 5) = V7 at *
  generalize hZ7 : w5.heap.size = Z7 at *
  have c0 := T7.out.a.cell 0
  have c1 := T7.out.a.cell 1
  have c2 := T7.out.b.cell 0
  have c3 := T7.out.b.cell 1
  simp only [List.getElem?_toArray, List.getElem?_cons_zero, List.getElem?_cons_succ] at c0 c1 c2 c3
  have HV7 := Lib.hid hV7
  have HZ7 := Lib.hid hZ7
  clear hV7 hZ7
  go_wp2_with (at_builtin; refine wpList_append_run rfl _ _ _ _ rfl rfl rfl hap ?_)
  have hB : BSl V7 Z7 0 (Lib.nDigits q + 15) cap (digL q ++ (digL (1000000000000000 + r)).drop 1) := ⟨by rw [List.length_append, List.length_drop, digL_len, digL_len, HND.out], HQ1.out, HQ2.out, _, HN.out, fun i b hib => by rw [Nat.zero_add]; exact HQ3.out i b hib⟩
  have HRD := round_c (!(decide (m1 < 0) == decide (m2 < 0))) Z7 0 (Lib.nDigits q + 15) cap (digL q ++ (digL (1000000000000000 + r)).drop 1) (e1 + e2) V7 hB (by omega) (fun b hb => by
    rcases List.mem_append.1 hb with h | h
    · have := digL_in q b h; omega
    · have := digL_in _ b (List.mem_of_mem_drop h); omega) (by omega) (by omega)
  have HR : Hid (mulF m1 e1 m2 e2 q r = roundF (!(decide (m1 < 0) == decide (m2 < 0))) (digL q ++ (digL (1000000000000000 + r)).drop 1) (e1 + e2)) := rfl
  generalize roundF (!(decide (m1 < 0) == decide (m2 < 0))) (digL q ++ (digL (1000000000000000 + r)).drop 1) (e1 + e2) = R at *
  refine HRD.mono ?_
  rintro x w10 ⟨rfl, hO10⟩
  have T10 := Lib.hid (T7.out.only hO10 GN.out)
  clear hO10 HRD hB T7 hap c0 c1 c2 c3
  have k0 := T10.out.c.cell 0
  have k1 := T10.out.c.cell 1
  have f0 := T10.out.c.frozen 0
  have f1 := T10.out.c.frozen 1
  simp only [List.getElem?_toArray, List.getElem?_cons_zero, List.getElem?_cons_succ] at k0 k1
  cases R with
  | none =>
    simp only [optV]
    go_wp2_with fail
    change bodyPost _ _ _ _ _ (put2 w10 (w.heap.size + 1 + 1) (.int .i64 0) (.int .i64 0))
    have bX2 := blk_put2 T10.out.c (.int .i64 0) (.int .i64 0)
    have HO9 := Lib.hid (below_put2 T10.out.below (X := w.heap.size + 1 + 1) (by omega) (.int .i64 0) (.int .i64 0))
    generalize put2 w10 (w.heap.size + 1 + 1) (.int .i64 0) (.int .i64 0) = W2 at *
    have d0 := bX2.cell 0
    have d1 := bX2.cell 1
    simp only [List.getElem?_toArray, List.getElem?_cons_zero, List.getElem?_cons_succ] at d0 d1
    exact bodyPost_ret (v := .tuple #[.agg #[(.int .i64 0), (.int .i64 0)], .bool false]) (by simp [results, Tryz.f64, go_sem, d0, d1]) rfl ⟨by rw [HR.out]; rfl, HO9.out⟩
  | some p =>
    obtain ⟨p1, p2⟩ := p
    simp only [optV]
    go_wp2_with fail
    change bodyPost _ _ _ _ _ (put2 w10 (w.heap.size + 1 + 1) (.int .i64 p1) (.int .i64 p2))
    have bX2 := blk_put2 T10.out.c (.int .i64 p1) (.int .i64 p2)
    have HO9 := Lib.hid (below_put2 T10.out.below (X := w.heap.size + 1 + 1) (by omega) (.int .i64 p1) (.int .i64 p2))
    generalize put2 w10 (w.heap.size + 1 + 1) (.int .i64 p1) (.int .i64 p2) = W2 at *
    have d0 := bX2.cell 0
    have d1 := bX2.cell 1
    simp only [List.getElem?_toArray, List.getElem?_cons_zero, List.getElem?_cons_succ] at d0 d1
    exact bodyPost_ret (v := .tuple #[.agg #[(.int .i64 p1), (.int .i64 p2)], .bool true]) (by simp [results, Tryz.f64, go_sem, d0, d1]) rfl ⟨by rw [HR.out]; rfl, HO9.out⟩
end Go.Proofs.YtdmbppgogdkpdaaGreatDoor
