/-
  package shape: sound, has, spread: their contracts. Condition: the array can be read, and holds as many values as its shape says.
  shape.Common: its contract. Condition: both arrays may be.
  shape.Both$1: its contract, for a function with one box. Condition: both arrays may be; what the function tells of each two values is said, and may be.
  shape.build for Both: its contract. Condition: the shape holds at most 4096 values; what the function tells of each place is said.
  shape.tooGreat, Both: their contracts. Condition: both arrays may be; what the function tells of each two values is said, and may be.
-/
import Derived.Test.YtdmbppgogdkpdaaGreatDoorY4
import Derived.Test.YtdmbppgogdkpdaaGreatDoorS22
set_option linter.unusedSectionVars false
namespace Go.Proofs.YtdmbppgogdkpdaaGreatDoor
open Go.RowKit
set_option maxRecDepth 100000 in
set_option maxHeartbeats 4000000 in
theorem sound_c (x : Val) (hr : RightV x) (hf : FitsV x) (w : World) : Calls Tryz.prog 83 #[.agg x.cs.toArray] w (RetV w x) := by
  have HR := Lib.hid hr
  obtain ⟨k, m, e, t, b, f⟩ := x
  have HV := Lib.hid (fun W => show Calls Tryz.prog 126 #[.agg #[.int .i64 k, .int .i64 m, .int .i64 e, .string t, .bool b, .int .i64 f]] W (RgV W ⟨k, m, e, t, b, f⟩) from vright_c ⟨k, m, e, t, b, f⟩ hf.1 hf.2.1 hf.2.2.1 hf.2.2.2 W)
  clear hr hf
  show Calls Tryz.prog 83 #[.agg #[.int .i64 k, .int .i64 m, .int .i64 e, .string t, .bool b, .int .i64 f]] w _
  have HB := Lib.hid (((Below.refl _ w).alloc (Nat.le_refl _) (.cells #[.int .i64 k, .int .i64 m, .int .i64 e, .string t, .bool b, .int .i64 f] 41)).alloc (by simp) (.cells #[.int .i64 0, .int .i64 0, .int .i64 0, .string ⟨#[]⟩, .bool false, .int .i64 0] 41))
  have BX := Lib.hid ((Blk.new w 41 #[.int .i64 k, .int .i64 m, .int .i64 e, .string t, .bool b, .int .i64 f]).alloc (.cells #[.int .i64 0, .int .i64 0, .int .i64 0, .string ⟨#[]⟩, .bool false, .int .i64 0] 41))
  have BY := Lib.hid (show Blk ((w.alloc (.cells #[.int .i64 k, .int .i64 m, .int .i64 e, .string t, .bool b, .int .i64 f] 41)).alloc (.cells #[.int .i64 0, .int .i64 0, .int .i64 0, .string ⟨#[]⟩, .bool false, .int .i64 0] 41)) (w.heap.size + 1) 41 #[.int .i64 0, .int .i64 0, .int .i64 0, .string ⟨#[]⟩, .bool false, .int .i64 0] by
    have := Blk.new (w.alloc (.cells #[.int .i64 k, .int .i64 m, .int .i64 e, .string t, .bool b, .int .i64 f] 41)) 41 #[.int .i64 0, .int .i64 0, .int .i64 0, .string ⟨#[]⟩, .bool false, .int .i64 0]
    rwa [show (w.alloc (.cells #[.int .i64 k, .int .i64 m, .int .i64 e, .string t, .bool b, .int .i64 f] 41)).heap.size = w.heap.size + 1 by simp] at this)
  go_enter Tryz.func83, Tryz.ntmps83
  go_wp2_with fail
  generalize ((w.alloc (.cells #[.int .i64 k, .int .i64 m, .int .i64 e, .string t, .bool b, .int .i64 f] 41)).alloc (.cells #[.int .i64 0, .int .i64 0, .int .i64 0, .string ⟨#[]⟩, .bool false, .int .i64 0] 41)) = V at *
  refine (HV.out _).mono ?_
  rintro y w1 ⟨b1, rfl, r1, B1⟩
  have BX1 := Lib.hid (BX.out.kept (B1.block _ BX.out.lt))
  have BY1 := Lib.hid (BY.out.kept (B1.block _ BY.out.lt))
  have HB1 := Lib.hid (HB.out.trans (B1.mono HB.out.size))
  obtain rfl : b1 = true := r1.2 HR.out
  clear B1 r1 HB BX BY
  have c0 := BX1.out.cell 0
  have c1 := BX1.out.cell 1
  have c2 := BX1.out.cell 2
  have c3 := BX1.out.cell 3
  have c4 := BX1.out.cell 4
  have c5 := BX1.out.cell 5
  simp only [List.getElem?_toArray, List.getElem?_cons_zero, List.getElem?_cons_succ] at c0 c1 c2 c3 c4 c5
  have e0 := BY1.out.cell 0
  have e1 := BY1.out.cell 1
  have e2 := BY1.out.cell 2
  have e3 := BY1.out.cell 3
  have e4 := BY1.out.cell 4
  have e5 := BY1.out.cell 5
  simp only [List.getElem?_toArray, List.getElem?_cons_zero, List.getElem?_cons_succ] at e0 e1 e2 e3 e4 e5
  have f0 := BY1.out.frozen 0
  have f1 := BY1.out.frozen 1
  have f2 := BY1.out.frozen 2
  have f3 := BY1.out.frozen 3
  have f4 := BY1.out.frozen 4
  have f5 := BY1.out.frozen 5
  have lX := BY1.out.lt
  go_wp2_with fail
  change bodyPost _ _ _ _ _ (put6 w1 (w.heap.size + 1) (.int .i64 k) (.int .i64 m) (.int .i64 e) (.string t) (.bool b) (.int .i64 f))
  have bX2 := Lib.hid (blk_put6 BY1.out (.int .i64 k) (.int .i64 m) (.int .i64 e) (.string t) (.bool b) (.int .i64 f))
  have HB2 := below_put6 HB1.out (Nat.le_succ _) (.int .i64 k) (.int .i64 m) (.int .i64 e) (.string t) (.bool b) (.int .i64 f)
  generalize put6 w1 (w.heap.size + 1) (.int .i64 k) (.int .i64 m) (.int .i64 e) (.string t) (.bool b) (.int .i64 f) = W2 at *
  have d0 := bX2.out.cell 0
  have d1 := bX2.out.cell 1
  have d2 := bX2.out.cell 2
  have d3 := bX2.out.cell 3
  have d4 := bX2.out.cell 4
  have d5 := bX2.out.cell 5
  simp only [List.getElem?_toArray, List.getElem?_cons_zero, List.getElem?_cons_succ] at d0 d1 d2 d3 d4 d5
  exact bodyPost_ret (v := .agg #[.int .i64 k, .int .i64 m, .int .i64 e, .string t, .bool b, .int .i64 f]) (by simp [results, Tryz.f83, go_sem, d0, d1, d2, d3, d4, d5]) rfl ⟨rfl, HB2⟩
set_option maxRecDepth 100000 in
set_option maxHeartbeats 1000000 in
theorem has_in (r c row col : Int) (A : Option Addr) (n ca : Nat) (w : World) (h1 : 0 ≤ row) (h2 : 0 ≤ col) (h3 : row < r) (h4 : col < c) :
    Calls Tryz.prog 128 #[.agg #[.int .i64 r, .int .i64 c, .slice A n ca], .int .i64 row, .int .i64 col] w fun e w' => e = .returned (.bool true) ∧ Below w.heap.size w w' := by
  have HB := Lib.hid ((Below.refl _ w).alloc (Nat.le_refl _) (.cells #[.int .i64 r, .int .i64 c, .slice A n ca] 28))
  have d1 : decide ((0 : Int) ≤ row) = true := decide_eq_true h1
  have d2 : decide ((0 : Int) ≤ col) = true := decide_eq_true h2
  have d3 : decide (row < r) = true := decide_eq_true h3
  have d4 : decide (col < c) = true := decide_eq_true h4
  go_enter Tryz.func128, Tryz.ntmps128
  go_wp2_with fail
  go_ret
  exact ⟨rfl, HB.out⟩
set_option maxRecDepth 100000 in
set_option maxHeartbeats 1000000 in
theorem has_out (r c row col : Int) (A : Option Addr) (n ca : Nat) (w : World) (h1 : 0 ≤ row) (h2 : 0 ≤ col) (h3 : ¬ (row < r ∧ col < c)) :
    Calls Tryz.prog 128 #[.agg #[.int .i64 r, .int .i64 c, .slice A n ca], .int .i64 row, .int .i64 col] w fun e w' => e = .returned (.bool false) ∧ Below w.heap.size w w' := by
  have HB := Lib.hid ((Below.refl _ w).alloc (Nat.le_refl _) (.cells #[.int .i64 r, .int .i64 c, .slice A n ca] 28))
  have d1 : decide ((0 : Int) ≤ row) = true := decide_eq_true h1
  have d2 : decide ((0 : Int) ≤ col) = true := decide_eq_true h2
  by_cases h5 : row < r
  · have d3 : decide (row < r) = true := decide_eq_true h5
    have d4 : decide (col < c) = false := decide_eq_false (fun h => h3 ⟨h5, h⟩)
    clear h3
    go_enter Tryz.func128, Tryz.ntmps128
    go_wp2_with fail
    go_ret
    exact ⟨rfl, HB.out⟩
  · have d3 : decide (row < r) = false := decide_eq_false h5
    clear h3
    go_enter Tryz.func128, Tryz.ntmps128
    go_wp2_with fail
    go_ret
    exact ⟨rfl, HB.out⟩
def okT (v : Val) (b : Bool) : Value := .tuple #[.agg v.cs.toArray, .bool b]
set_option maxRecDepth 100000 in
set_option maxHeartbeats 4000000 in
theorem aspread_11 (z0 : Nat) (A : Option Addr) (n ca : Nat) (l : List Val) (w : World) (row col : Nat) (h : ArrR w 1 1 A n l) (h0 : True) (hp : 0 < l.length) :
    Calls Tryz.prog 81 #[.agg #[.int .i64 1, .int .i64 1, .slice A n ca], .int .i64 row, .int .i64 col] w fun e w' => e = .returned (okT l[0] true) ∧ Below w.heap.size w w' := by
  have r1 := h.right.r1
  have r2 := h.right.c1
  have HH := Lib.hid (fun W => has_in 1 1 0 0 A n ca W (by omega) (by omega) (by omega) (by omega))
  have hn := h.len
  have hm := h.le
  have B0 := Lib.hid (Bxs.start w [(28, #[.int .i64 1, .int .i64 1, .slice A n ca]), (41, #[.int .i64 0, .int .i64 0, .int .i64 0, .string ⟨#[]⟩, .bool false, .int .i64 0])])
  simp only [allocAll] at B0
  skip
  obtain ⟨bA, oA, rfl, lA, hcA⟩ := h.many h.le2.2.2
  have gv := hcA (0) hp
  have hpn : (0 : Int) < (n : Int) := by omega
  have hp0 : (0 : Int) ≤ (0 : Int) := by omega
  clear hcA h
  generalize l[0] = z at *
  clear hp hn
  obtain ⟨k, m, e, t, b, f⟩ := z
  have c0 := gv 0 _ rfl
  have c1 := gv 1 _ rfl
  have c2 := gv 2 _ rfl
  have c3 := gv 3 _ rfl
  have c4 := gv 4 _ rfl
  have c5 := gv 5 _ rfl
  simp only [Nat.zero_mul, Nat.add_zero] at c0 c1 c2 c3 c4 c5
  simp only [okT, Val.cs]
  have HCC := Lib.hid (fun W (hW : Below w.heap.size w W) => And.intro ((hW.cell (p := ⟨bA, _, none⟩) lA).trans c0) (And.intro ((hW.cell (p := ⟨bA, _, none⟩) lA).trans c1) (And.intro ((hW.cell (p := ⟨bA, _, none⟩) lA).trans c2) (And.intro ((hW.cell (p := ⟨bA, _, none⟩) lA).trans c3) (And.intro ((hW.cell (p := ⟨bA, _, none⟩) lA).trans c4) ((hW.cell (p := ⟨bA, _, none⟩) lA).trans c5))))))
  clear gv c0 c1 c2 c3 c4 c5 r1 r2
  go_enter Tryz.func81, Tryz.ntmps81
  go_wp2_with fail
  refine (HH.out _).mono ?_
  rintro y w1 ⟨rfl, hb⟩
  have B1 := Lib.hid (B0.out.next hb)
  clear hb B0
  obtain ⟨c0, c1, c2, c3, c4, c5⟩ := HCC.out _ B1.out.below
  have k9 := B1.out.box 0 _ _ rfl
  have BX1 := Lib.hid (show Blk w1 w.heap.size 28 #[.int .i64 1, .int .i64 1, .slice (some ⟨bA, oA, none⟩) n ca] from k9)
  have a0 := BX1.out.cell 0
  have a1 := BX1.out.cell 1
  have a2 := BX1.out.cell 2
  simp only [List.getElem?_toArray, List.getElem?_cons_zero, List.getElem?_cons_succ] at a0 a1 a2
  have k2 := B1.out.box 1 _ _ rfl
  have BY1 := Lib.hid (show Blk w1 (w.heap.size + 1) 41 #[.int .i64 0, .int .i64 0, .int .i64 0, .string ⟨#[]⟩, .bool false, .int .i64 0] from k2)
  have HB1 := Lib.hid B1.out.below
  clear k9 k2
  have e0 := BY1.out.cell 0
  have e1 := BY1.out.cell 1
  have e2 := BY1.out.cell 2
  have e3 := BY1.out.cell 3
  have e4 := BY1.out.cell 4
  have e5 := BY1.out.cell 5
  simp only [List.getElem?_toArray, List.getElem?_cons_zero, List.getElem?_cons_succ] at e0 e1 e2 e3 e4 e5
  have f0 := BY1.out.frozen 0
  have f1 := BY1.out.frozen 1
  have f2 := BY1.out.frozen 2
  have f3 := BY1.out.frozen 3
  have f4 := BY1.out.frozen 4
  have f5 := BY1.out.frozen 5
  have lX := BY1.out.lt
  go_wp2_with fail
  change bodyPost _ _ _ _ _ (put6 w1 (w.heap.size + 1) (.int .i64 k) (.int .i64 m) (.int .i64 e) (.string t) (.bool b) (.int .i64 f))
  have bX2 := Lib.hid (blk_put6 BY1.out (.int .i64 k) (.int .i64 m) (.int .i64 e) (.string t) (.bool b) (.int .i64 f))
  have HB2 := below_put6 HB1.out (Nat.le_succ _) (.int .i64 k) (.int .i64 m) (.int .i64 e) (.string t) (.bool b) (.int .i64 f)
  generalize put6 w1 (w.heap.size + 1) (.int .i64 k) (.int .i64 m) (.int .i64 e) (.string t) (.bool b) (.int .i64 f) = W2 at *
  have d0 := bX2.out.cell 0
  have d1 := bX2.out.cell 1
  have d2 := bX2.out.cell 2
  have d3 := bX2.out.cell 3
  have d4 := bX2.out.cell 4
  have d5 := bX2.out.cell 5
  simp only [List.getElem?_toArray, List.getElem?_cons_zero, List.getElem?_cons_succ] at d0 d1 d2 d3 d4 d5
  exact bodyPost_ret (v := .tuple #[.agg #[.int .i64 k, .int .i64 m, .int .i64 e, .string t, .bool b, .int .i64 f], .bool true]) (by simp [results, Tryz.f81, go_sem, d0, d1, d2, d3, d4, d5]) rfl ⟨rfl, HB2⟩
set_option maxRecDepth 100000 in
set_option maxHeartbeats 4000000 in
theorem aspread_1c (C : Nat) (A : Option Addr) (n ca : Nat) (l : List Val) (w : World) (row col : Nat) (h : ArrR w 1 C A n l) (hC : ¬ (C : Int) = 1) (h0 : col < C) (hp : col < l.length) :
    Calls Tryz.prog 81 #[.agg #[.int .i64 1, .int .i64 (C : Int), .slice A n ca], .int .i64 row, .int .i64 col] w fun e w' => e = .returned (okT l[col] true) ∧ Below w.heap.size w w' := by
  have r1 := h.right.r1
  have r2 := h.right.c1
  have HH := Lib.hid (fun W => has_in 1 (C : Int) 0 col A n ca W (by omega) (by omega) (by omega) (by omega))
  have hn := h.len
  have hm := h.le
  have B0 := Lib.hid (Bxs.start w [(28, #[.int .i64 1, .int .i64 (C : Int), .slice A n ca]), (41, #[.int .i64 0, .int .i64 0, .int .i64 0, .string ⟨#[]⟩, .bool false, .int .i64 0])])
  simp only [allocAll] at B0
  (have wc : IntKind.i64.wrap (col : Int) = (col : Int) := IntWalk.i64_in _ (by omega))
  obtain ⟨bA, oA, rfl, lA, hcA⟩ := h.many h.le2.2.2
  have gv := hcA (col) hp
  have hpn : (col : Int) < (n : Int) := by omega
  have hp0 : (0 : Int) ≤ (col : Int) := by omega
  clear hcA h
  generalize l[col] = z at *
  clear hp hn
  obtain ⟨k, m, e, t, b, f⟩ := z
  have c0 := gv 0 _ rfl
  have c1 := gv 1 _ rfl
  have c2 := gv 2 _ rfl
  have c3 := gv 3 _ rfl
  have c4 := gv 4 _ rfl
  have c5 := gv 5 _ rfl
  simp only [Nat.zero_mul, Nat.add_zero] at c0 c1 c2 c3 c4 c5
  simp only [okT, Val.cs]
  have HCC := Lib.hid (fun W (hW : Below w.heap.size w W) => And.intro ((hW.cell (p := ⟨bA, _, none⟩) lA).trans c0) (And.intro ((hW.cell (p := ⟨bA, _, none⟩) lA).trans c1) (And.intro ((hW.cell (p := ⟨bA, _, none⟩) lA).trans c2) (And.intro ((hW.cell (p := ⟨bA, _, none⟩) lA).trans c3) (And.intro ((hW.cell (p := ⟨bA, _, none⟩) lA).trans c4) ((hW.cell (p := ⟨bA, _, none⟩) lA).trans c5))))))
  clear gv c0 c1 c2 c3 c4 c5 r1 r2
  go_enter Tryz.func81, Tryz.ntmps81
  go_wp2_with fail
  refine (HH.out _).mono ?_
  rintro y w1 ⟨rfl, hb⟩
  have B1 := Lib.hid (B0.out.next hb)
  clear hb B0
  obtain ⟨c0, c1, c2, c3, c4, c5⟩ := HCC.out _ B1.out.below
  have k9 := B1.out.box 0 _ _ rfl
  have BX1 := Lib.hid (show Blk w1 w.heap.size 28 #[.int .i64 1, .int .i64 (C : Int), .slice (some ⟨bA, oA, none⟩) n ca] from k9)
  have a0 := BX1.out.cell 0
  have a1 := BX1.out.cell 1
  have a2 := BX1.out.cell 2
  simp only [List.getElem?_toArray, List.getElem?_cons_zero, List.getElem?_cons_succ] at a0 a1 a2
  have k2 := B1.out.box 1 _ _ rfl
  have BY1 := Lib.hid (show Blk w1 (w.heap.size + 1) 41 #[.int .i64 0, .int .i64 0, .int .i64 0, .string ⟨#[]⟩, .bool false, .int .i64 0] from k2)
  have HB1 := Lib.hid B1.out.below
  clear k9 k2
  have e0 := BY1.out.cell 0
  have e1 := BY1.out.cell 1
  have e2 := BY1.out.cell 2
  have e3 := BY1.out.cell 3
  have e4 := BY1.out.cell 4
  have e5 := BY1.out.cell 5
  simp only [List.getElem?_toArray, List.getElem?_cons_zero, List.getElem?_cons_succ] at e0 e1 e2 e3 e4 e5
  have f0 := BY1.out.frozen 0
  have f1 := BY1.out.frozen 1
  have f2 := BY1.out.frozen 2
  have f3 := BY1.out.frozen 3
  have f4 := BY1.out.frozen 4
  have f5 := BY1.out.frozen 5
  have lX := BY1.out.lt
  go_wp2_with fail
  change bodyPost _ _ _ _ _ (put6 w1 (w.heap.size + 1) (.int .i64 k) (.int .i64 m) (.int .i64 e) (.string t) (.bool b) (.int .i64 f))
  have bX2 := Lib.hid (blk_put6 BY1.out (.int .i64 k) (.int .i64 m) (.int .i64 e) (.string t) (.bool b) (.int .i64 f))
  have HB2 := below_put6 HB1.out (Nat.le_succ _) (.int .i64 k) (.int .i64 m) (.int .i64 e) (.string t) (.bool b) (.int .i64 f)
  generalize put6 w1 (w.heap.size + 1) (.int .i64 k) (.int .i64 m) (.int .i64 e) (.string t) (.bool b) (.int .i64 f) = W2 at *
  have d0 := bX2.out.cell 0
  have d1 := bX2.out.cell 1
  have d2 := bX2.out.cell 2
  have d3 := bX2.out.cell 3
  have d4 := bX2.out.cell 4
  have d5 := bX2.out.cell 5
  simp only [List.getElem?_toArray, List.getElem?_cons_zero, List.getElem?_cons_succ] at d0 d1 d2 d3 d4 d5
  exact bodyPost_ret (v := .tuple #[.agg #[.int .i64 k, .int .i64 m, .int .i64 e, .string t, .bool b, .int .i64 f], .bool true]) (by simp [results, Tryz.f81, go_sem, d0, d1, d2, d3, d4, d5]) rfl ⟨rfl, HB2⟩
set_option maxRecDepth 100000 in
set_option maxHeartbeats 4000000 in
theorem aspread_r1 (R : Nat) (A : Option Addr) (n ca : Nat) (l : List Val) (w : World) (row col : Nat) (h : ArrR w R 1 A n l) (hR : ¬ (R : Int) = 1) (h0 : row < R) (hp : row < l.length) :
    Calls Tryz.prog 81 #[.agg #[.int .i64 (R : Int), .int .i64 1, .slice A n ca], .int .i64 row, .int .i64 col] w fun e w' => e = .returned (okT l[row] true) ∧ Below w.heap.size w w' := by
  have r1 := h.right.r1
  have r2 := h.right.c1
  have HH := Lib.hid (fun W => has_in (R : Int) 1 row 0 A n ca W (by omega) (by omega) (by omega) (by omega))
  have hn := h.len
  have hm := h.le
  have B0 := Lib.hid (Bxs.start w [(28, #[.int .i64 (R : Int), .int .i64 1, .slice A n ca]), (41, #[.int .i64 0, .int .i64 0, .int .i64 0, .string ⟨#[]⟩, .bool false, .int .i64 0])])
  simp only [allocAll] at B0
  (have wc : IntKind.i64.wrap (row : Int) = (row : Int) := IntWalk.i64_in _ (by omega))
  obtain ⟨bA, oA, rfl, lA, hcA⟩ := h.many h.le2.2.2
  have gv := hcA (row) hp
  have hpn : (row : Int) < (n : Int) := by omega
  have hp0 : (0 : Int) ≤ (row : Int) := by omega
  clear hcA h
  generalize l[row] = z at *
  clear hp hn
  obtain ⟨k, m, e, t, b, f⟩ := z
  have c0 := gv 0 _ rfl
  have c1 := gv 1 _ rfl
  have c2 := gv 2 _ rfl
  have c3 := gv 3 _ rfl
  have c4 := gv 4 _ rfl
  have c5 := gv 5 _ rfl
  simp only [Nat.zero_mul, Nat.add_zero] at c0 c1 c2 c3 c4 c5
  simp only [okT, Val.cs]
  have HCC := Lib.hid (fun W (hW : Below w.heap.size w W) => And.intro ((hW.cell (p := ⟨bA, _, none⟩) lA).trans c0) (And.intro ((hW.cell (p := ⟨bA, _, none⟩) lA).trans c1) (And.intro ((hW.cell (p := ⟨bA, _, none⟩) lA).trans c2) (And.intro ((hW.cell (p := ⟨bA, _, none⟩) lA).trans c3) (And.intro ((hW.cell (p := ⟨bA, _, none⟩) lA).trans c4) ((hW.cell (p := ⟨bA, _, none⟩) lA).trans c5))))))
  clear gv c0 c1 c2 c3 c4 c5 r1 r2
  go_enter Tryz.func81, Tryz.ntmps81
  go_wp2_with fail
  refine (HH.out _).mono ?_
  rintro y w1 ⟨rfl, hb⟩
  have B1 := Lib.hid (B0.out.next hb)
  clear hb B0
  obtain ⟨c0, c1, c2, c3, c4, c5⟩ := HCC.out _ B1.out.below
  have k9 := B1.out.box 0 _ _ rfl
  have BX1 := Lib.hid (show Blk w1 w.heap.size 28 #[.int .i64 (R : Int), .int .i64 1, .slice (some ⟨bA, oA, none⟩) n ca] from k9)
  have a0 := BX1.out.cell 0
  have a1 := BX1.out.cell 1
  have a2 := BX1.out.cell 2
  simp only [List.getElem?_toArray, List.getElem?_cons_zero, List.getElem?_cons_succ] at a0 a1 a2
  have k2 := B1.out.box 1 _ _ rfl
  have BY1 := Lib.hid (show Blk w1 (w.heap.size + 1) 41 #[.int .i64 0, .int .i64 0, .int .i64 0, .string ⟨#[]⟩, .bool false, .int .i64 0] from k2)
  have HB1 := Lib.hid B1.out.below
  clear k9 k2
  have e0 := BY1.out.cell 0
  have e1 := BY1.out.cell 1
  have e2 := BY1.out.cell 2
  have e3 := BY1.out.cell 3
  have e4 := BY1.out.cell 4
  have e5 := BY1.out.cell 5
  simp only [List.getElem?_toArray, List.getElem?_cons_zero, List.getElem?_cons_succ] at e0 e1 e2 e3 e4 e5
  have f0 := BY1.out.frozen 0
  have f1 := BY1.out.frozen 1
  have f2 := BY1.out.frozen 2
  have f3 := BY1.out.frozen 3
  have f4 := BY1.out.frozen 4
  have f5 := BY1.out.frozen 5
  have lX := BY1.out.lt
  go_wp2_with fail
  change bodyPost _ _ _ _ _ (put6 w1 (w.heap.size + 1) (.int .i64 k) (.int .i64 m) (.int .i64 e) (.string t) (.bool b) (.int .i64 f))
  have bX2 := Lib.hid (blk_put6 BY1.out (.int .i64 k) (.int .i64 m) (.int .i64 e) (.string t) (.bool b) (.int .i64 f))
  have HB2 := below_put6 HB1.out (Nat.le_succ _) (.int .i64 k) (.int .i64 m) (.int .i64 e) (.string t) (.bool b) (.int .i64 f)
  generalize put6 w1 (w.heap.size + 1) (.int .i64 k) (.int .i64 m) (.int .i64 e) (.string t) (.bool b) (.int .i64 f) = W2 at *
  have d0 := bX2.out.cell 0
  have d1 := bX2.out.cell 1
  have d2 := bX2.out.cell 2
  have d3 := bX2.out.cell 3
  have d4 := bX2.out.cell 4
  have d5 := bX2.out.cell 5
  simp only [List.getElem?_toArray, List.getElem?_cons_zero, List.getElem?_cons_succ] at d0 d1 d2 d3 d4 d5
  exact bodyPost_ret (v := .tuple #[.agg #[.int .i64 k, .int .i64 m, .int .i64 e, .string t, .bool b, .int .i64 f], .bool true]) (by simp [results, Tryz.f81, go_sem, d0, d1, d2, d3, d4, d5]) rfl ⟨rfl, HB2⟩
set_option maxRecDepth 100000 in
set_option maxHeartbeats 4000000 in
theorem aspread_rc (R C q p : Nat) (A : Option Addr) (n ca : Nat) (l : List Val) (w : World) (row col : Nat) (h : ArrR w R C A n l) (hR : ¬ (R : Int) = 1) (hC : ¬ (C : Int) = 1) (h0 : row < R) (h1 : col < C) (hq : row * C = q) (hp2 : q + col = p) (hp : p < l.length) :
    Calls Tryz.prog 81 #[.agg #[.int .i64 (R : Int), .int .i64 (C : Int), .slice A n ca], .int .i64 row, .int .i64 col] w fun e w' => e = .returned (okT l[p] true) ∧ Below w.heap.size w w' := by
  have r1 := h.right.r1
  have r2 := h.right.c1
  have HH := Lib.hid (fun W => has_in (R : Int) (C : Int) row col A n ca W (by omega) (by omega) (by omega) (by omega))
  have hn := h.len
  have hm := h.le
  have B0 := Lib.hid (Bxs.start w [(28, #[.int .i64 (R : Int), .int .i64 (C : Int), .slice A n ca]), (41, #[.int .i64 0, .int .i64 0, .int .i64 0, .string ⟨#[]⟩, .bool false, .int .i64 0])])
  simp only [allocAll] at B0
  (have wq : IntKind.i64.wrap ((row : Int) * (C : Int)) = (q : Int) := by { rw [← Int.natCast_mul, hq]; exact IntWalk.i64_in _ (by omega) }; have wp : IntKind.i64.wrap ((q : Int) + (col : Int)) = (p : Int) := by { rw [← Int.natCast_add, hp2]; exact IntWalk.i64_in _ (by omega) })
  obtain ⟨bA, oA, rfl, lA, hcA⟩ := h.many h.le2.2.2
  have gv := hcA (p) hp
  have hpn : (p : Int) < (n : Int) := by omega
  have hp0 : (0 : Int) ≤ (p : Int) := by omega
  clear hcA h
  generalize l[p] = z at *
  clear hp hn
  obtain ⟨k, m, e, t, b, f⟩ := z
  have c0 := gv 0 _ rfl
  have c1 := gv 1 _ rfl
  have c2 := gv 2 _ rfl
  have c3 := gv 3 _ rfl
  have c4 := gv 4 _ rfl
  have c5 := gv 5 _ rfl
  simp only [Nat.zero_mul, Nat.add_zero] at c0 c1 c2 c3 c4 c5
  simp only [okT, Val.cs]
  have HCC := Lib.hid (fun W (hW : Below w.heap.size w W) => And.intro ((hW.cell (p := ⟨bA, _, none⟩) lA).trans c0) (And.intro ((hW.cell (p := ⟨bA, _, none⟩) lA).trans c1) (And.intro ((hW.cell (p := ⟨bA, _, none⟩) lA).trans c2) (And.intro ((hW.cell (p := ⟨bA, _, none⟩) lA).trans c3) (And.intro ((hW.cell (p := ⟨bA, _, none⟩) lA).trans c4) ((hW.cell (p := ⟨bA, _, none⟩) lA).trans c5))))))
  clear gv c0 c1 c2 c3 c4 c5 r1 r2
  go_enter Tryz.func81, Tryz.ntmps81
  go_wp2_with fail
  refine (HH.out _).mono ?_
  rintro y w1 ⟨rfl, hb⟩
  have B1 := Lib.hid (B0.out.next hb)
  clear hb B0
  obtain ⟨c0, c1, c2, c3, c4, c5⟩ := HCC.out _ B1.out.below
  have k9 := B1.out.box 0 _ _ rfl
  have BX1 := Lib.hid (show Blk w1 w.heap.size 28 #[.int .i64 (R : Int), .int .i64 (C : Int), .slice (some ⟨bA, oA, none⟩) n ca] from k9)
  have a0 := BX1.out.cell 0
  have a1 := BX1.out.cell 1
  have a2 := BX1.out.cell 2
  simp only [List.getElem?_toArray, List.getElem?_cons_zero, List.getElem?_cons_succ] at a0 a1 a2
  have k2 := B1.out.box 1 _ _ rfl
  have BY1 := Lib.hid (show Blk w1 (w.heap.size + 1) 41 #[.int .i64 0, .int .i64 0, .int .i64 0, .string ⟨#[]⟩, .bool false, .int .i64 0] from k2)
  have HB1 := Lib.hid B1.out.below
  clear k9 k2
  have e0 := BY1.out.cell 0
  have e1 := BY1.out.cell 1
  have e2 := BY1.out.cell 2
  have e3 := BY1.out.cell 3
  have e4 := BY1.out.cell 4
  have e5 := BY1.out.cell 5
  simp only [List.getElem?_toArray, List.getElem?_cons_zero, List.getElem?_cons_succ] at e0 e1 e2 e3 e4 e5
  have f0 := BY1.out.frozen 0
  have f1 := BY1.out.frozen 1
  have f2 := BY1.out.frozen 2
  have f3 := BY1.out.frozen 3
  have f4 := BY1.out.frozen 4
  have f5 := BY1.out.frozen 5
  have lX := BY1.out.lt
  go_wp2_with fail
  change bodyPost _ _ _ _ _ (put6 w1 (w.heap.size + 1) (.int .i64 k) (.int .i64 m) (.int .i64 e) (.string t) (.bool b) (.int .i64 f))
  have bX2 := Lib.hid (blk_put6 BY1.out (.int .i64 k) (.int .i64 m) (.int .i64 e) (.string t) (.bool b) (.int .i64 f))
  have HB2 := below_put6 HB1.out (Nat.le_succ _) (.int .i64 k) (.int .i64 m) (.int .i64 e) (.string t) (.bool b) (.int .i64 f)
  generalize put6 w1 (w.heap.size + 1) (.int .i64 k) (.int .i64 m) (.int .i64 e) (.string t) (.bool b) (.int .i64 f) = W2 at *
  have d0 := bX2.out.cell 0
  have d1 := bX2.out.cell 1
  have d2 := bX2.out.cell 2
  have d3 := bX2.out.cell 3
  have d4 := bX2.out.cell 4
  have d5 := bX2.out.cell 5
  simp only [List.getElem?_toArray, List.getElem?_cons_zero, List.getElem?_cons_succ] at d0 d1 d2 d3 d4 d5
  exact bodyPost_ret (v := .tuple #[.agg #[.int .i64 k, .int .i64 m, .int .i64 e, .string t, .bool b, .int .i64 f], .bool true]) (by simp [results, Tryz.f81, go_sem, d0, d1, d2, d3, d4, d5]) rfl ⟨rfl, HB2⟩
set_option maxRecDepth 100000 in
set_option maxHeartbeats 4000000 in
theorem aspread_o1c (C : Nat) (A : Option Addr) (n ca : Nat) (w : World) (row col : Nat) (hC : ¬ (C : Int) = 1) (h0 : ¬ col < C) :
    Calls Tryz.prog 81 #[.agg #[.int .i64 1, .int .i64 (C : Int), .slice A n ca], .int .i64 row, .int .i64 col] w fun e w' => e = .returned (okT zeroV false) ∧ Below w.heap.size w w' := by
  have HH := Lib.hid (fun W => has_out 1 (C : Int) 0 col A n ca W (by omega) (by omega) (by omega))
  have B0 := Lib.hid (Bxs.start w [(28, #[.int .i64 1, .int .i64 (C : Int), .slice A n ca]), (41, #[.int .i64 0, .int .i64 0, .int .i64 0, .string ⟨#[]⟩, .bool false, .int .i64 0])])
  simp only [allocAll] at B0
  simp only [okT, Val.cs, zeroV]
  go_enter Tryz.func81, Tryz.ntmps81
  go_wp2_with fail
  refine (HH.out _).mono ?_
  rintro y w1 ⟨rfl, hb⟩
  have B1 := Lib.hid (B0.out.next hb)
  clear hb B0
  have k2 := B1.out.box 1 _ _ rfl
  have BY1 := Lib.hid (show Blk w1 (w.heap.size + 1) 41 #[.int .i64 0, .int .i64 0, .int .i64 0, .string ⟨#[]⟩, .bool false, .int .i64 0] from k2)
  have HB1 := Lib.hid B1.out.below
  clear k2
  have e0 := BY1.out.cell 0
  have e1 := BY1.out.cell 1
  have e2 := BY1.out.cell 2
  have e3 := BY1.out.cell 3
  have e4 := BY1.out.cell 4
  have e5 := BY1.out.cell 5
  simp only [List.getElem?_toArray, List.getElem?_cons_zero, List.getElem?_cons_succ] at e0 e1 e2 e3 e4 e5
  have f0 := BY1.out.frozen 0
  have f1 := BY1.out.frozen 1
  have f2 := BY1.out.frozen 2
  have f3 := BY1.out.frozen 3
  have f4 := BY1.out.frozen 4
  have f5 := BY1.out.frozen 5
  have lX := BY1.out.lt
  go_wp2_with fail
  change bodyPost _ _ _ _ _ (put6 w1 (w.heap.size + 1) (.int .i64 0) (.int .i64 0) (.int .i64 0) (.string ⟨#[]⟩) (.bool false) (.int .i64 0))
  have bX2 := Lib.hid (blk_put6 BY1.out (.int .i64 0) (.int .i64 0) (.int .i64 0) (.string ⟨#[]⟩) (.bool false) (.int .i64 0))
  have HB2 := below_put6 HB1.out (Nat.le_succ _) (.int .i64 0) (.int .i64 0) (.int .i64 0) (.string ⟨#[]⟩) (.bool false) (.int .i64 0)
  generalize put6 w1 (w.heap.size + 1) (.int .i64 0) (.int .i64 0) (.int .i64 0) (.string ⟨#[]⟩) (.bool false) (.int .i64 0) = W2 at *
  have d0 := bX2.out.cell 0
  have d1 := bX2.out.cell 1
  have d2 := bX2.out.cell 2
  have d3 := bX2.out.cell 3
  have d4 := bX2.out.cell 4
  have d5 := bX2.out.cell 5
  simp only [List.getElem?_toArray, List.getElem?_cons_zero, List.getElem?_cons_succ] at d0 d1 d2 d3 d4 d5
  exact bodyPost_ret (v := .tuple #[.agg #[.int .i64 0, .int .i64 0, .int .i64 0, .string ⟨#[]⟩, .bool false, .int .i64 0], .bool false]) (by simp [results, Tryz.f81, go_sem, d0, d1, d2, d3, d4, d5]) rfl ⟨rfl, HB2⟩
set_option maxRecDepth 100000 in
set_option maxHeartbeats 4000000 in
theorem aspread_or1 (R : Nat) (A : Option Addr) (n ca : Nat) (w : World) (row col : Nat) (hR : ¬ (R : Int) = 1) (h0 : ¬ row < R) :
    Calls Tryz.prog 81 #[.agg #[.int .i64 (R : Int), .int .i64 1, .slice A n ca], .int .i64 row, .int .i64 col] w fun e w' => e = .returned (okT zeroV false) ∧ Below w.heap.size w w' := by
  have HH := Lib.hid (fun W => has_out (R : Int) 1 row 0 A n ca W (by omega) (by omega) (by omega))
  have B0 := Lib.hid (Bxs.start w [(28, #[.int .i64 (R : Int), .int .i64 1, .slice A n ca]), (41, #[.int .i64 0, .int .i64 0, .int .i64 0, .string ⟨#[]⟩, .bool false, .int .i64 0])])
  simp only [allocAll] at B0
  simp only [okT, Val.cs, zeroV]
  go_enter Tryz.func81, Tryz.ntmps81
  go_wp2_with fail
  refine (HH.out _).mono ?_
  rintro y w1 ⟨rfl, hb⟩
  have B1 := Lib.hid (B0.out.next hb)
  clear hb B0
  have k2 := B1.out.box 1 _ _ rfl
  have BY1 := Lib.hid (show Blk w1 (w.heap.size + 1) 41 #[.int .i64 0, .int .i64 0, .int .i64 0, .string ⟨#[]⟩, .bool false, .int .i64 0] from k2)
  have HB1 := Lib.hid B1.out.below
  clear k2
  have e0 := BY1.out.cell 0
  have e1 := BY1.out.cell 1
  have e2 := BY1.out.cell 2
  have e3 := BY1.out.cell 3
  have e4 := BY1.out.cell 4
  have e5 := BY1.out.cell 5
  simp only [List.getElem?_toArray, List.getElem?_cons_zero, List.getElem?_cons_succ] at e0 e1 e2 e3 e4 e5
  have f0 := BY1.out.frozen 0
  have f1 := BY1.out.frozen 1
  have f2 := BY1.out.frozen 2
  have f3 := BY1.out.frozen 3
  have f4 := BY1.out.frozen 4
  have f5 := BY1.out.frozen 5
  have lX := BY1.out.lt
  go_wp2_with fail
  change bodyPost _ _ _ _ _ (put6 w1 (w.heap.size + 1) (.int .i64 0) (.int .i64 0) (.int .i64 0) (.string ⟨#[]⟩) (.bool false) (.int .i64 0))
  have bX2 := Lib.hid (blk_put6 BY1.out (.int .i64 0) (.int .i64 0) (.int .i64 0) (.string ⟨#[]⟩) (.bool false) (.int .i64 0))
  have HB2 := below_put6 HB1.out (Nat.le_succ _) (.int .i64 0) (.int .i64 0) (.int .i64 0) (.string ⟨#[]⟩) (.bool false) (.int .i64 0)
  generalize put6 w1 (w.heap.size + 1) (.int .i64 0) (.int .i64 0) (.int .i64 0) (.string ⟨#[]⟩) (.bool false) (.int .i64 0) = W2 at *
  have d0 := bX2.out.cell 0
  have d1 := bX2.out.cell 1
  have d2 := bX2.out.cell 2
  have d3 := bX2.out.cell 3
  have d4 := bX2.out.cell 4
  have d5 := bX2.out.cell 5
  simp only [List.getElem?_toArray, List.getElem?_cons_zero, List.getElem?_cons_succ] at d0 d1 d2 d3 d4 d5
  exact bodyPost_ret (v := .tuple #[.agg #[.int .i64 0, .int .i64 0, .int .i64 0, .string ⟨#[]⟩, .bool false, .int .i64 0], .bool false]) (by simp [results, Tryz.f81, go_sem, d0, d1, d2, d3, d4, d5]) rfl ⟨rfl, HB2⟩
set_option maxRecDepth 100000 in
set_option maxHeartbeats 4000000 in
theorem aspread_orc (R C : Nat) (A : Option Addr) (n ca : Nat) (w : World) (row col : Nat) (hR : ¬ (R : Int) = 1) (hC : ¬ (C : Int) = 1) (h0 : ¬ (row < R ∧ col < C)) :
    Calls Tryz.prog 81 #[.agg #[.int .i64 (R : Int), .int .i64 (C : Int), .slice A n ca], .int .i64 row, .int .i64 col] w fun e w' => e = .returned (okT zeroV false) ∧ Below w.heap.size w w' := by
  have HH := Lib.hid (fun W => has_out (R : Int) (C : Int) row col A n ca W (by omega) (by omega) (by omega))
  have B0 := Lib.hid (Bxs.start w [(28, #[.int .i64 (R : Int), .int .i64 (C : Int), .slice A n ca]), (41, #[.int .i64 0, .int .i64 0, .int .i64 0, .string ⟨#[]⟩, .bool false, .int .i64 0])])
  simp only [allocAll] at B0
  simp only [okT, Val.cs, zeroV]
  go_enter Tryz.func81, Tryz.ntmps81
  go_wp2_with fail
  refine (HH.out _).mono ?_
  rintro y w1 ⟨rfl, hb⟩
  have B1 := Lib.hid (B0.out.next hb)
  clear hb B0
  have k2 := B1.out.box 1 _ _ rfl
  have BY1 := Lib.hid (show Blk w1 (w.heap.size + 1) 41 #[.int .i64 0, .int .i64 0, .int .i64 0, .string ⟨#[]⟩, .bool false, .int .i64 0] from k2)
  have HB1 := Lib.hid B1.out.below
  clear k2
  have e0 := BY1.out.cell 0
  have e1 := BY1.out.cell 1
  have e2 := BY1.out.cell 2
  have e3 := BY1.out.cell 3
  have e4 := BY1.out.cell 4
  have e5 := BY1.out.cell 5
  simp only [List.getElem?_toArray, List.getElem?_cons_zero, List.getElem?_cons_succ] at e0 e1 e2 e3 e4 e5
  have f0 := BY1.out.frozen 0
  have f1 := BY1.out.frozen 1
  have f2 := BY1.out.frozen 2
  have f3 := BY1.out.frozen 3
  have f4 := BY1.out.frozen 4
  have f5 := BY1.out.frozen 5
  have lX := BY1.out.lt
  go_wp2_with fail
  change bodyPost _ _ _ _ _ (put6 w1 (w.heap.size + 1) (.int .i64 0) (.int .i64 0) (.int .i64 0) (.string ⟨#[]⟩) (.bool false) (.int .i64 0))
  have bX2 := Lib.hid (blk_put6 BY1.out (.int .i64 0) (.int .i64 0) (.int .i64 0) (.string ⟨#[]⟩) (.bool false) (.int .i64 0))
  have HB2 := below_put6 HB1.out (Nat.le_succ _) (.int .i64 0) (.int .i64 0) (.int .i64 0) (.string ⟨#[]⟩) (.bool false) (.int .i64 0)
  generalize put6 w1 (w.heap.size + 1) (.int .i64 0) (.int .i64 0) (.int .i64 0) (.string ⟨#[]⟩) (.bool false) (.int .i64 0) = W2 at *
  have d0 := bX2.out.cell 0
  have d1 := bX2.out.cell 1
  have d2 := bX2.out.cell 2
  have d3 := bX2.out.cell 3
  have d4 := bX2.out.cell 4
  have d5 := bX2.out.cell 5
  simp only [List.getElem?_toArray, List.getElem?_cons_zero, List.getElem?_cons_succ] at d0 d1 d2 d3 d4 d5
  exact bodyPost_ret (v := .tuple #[.agg #[.int .i64 0, .int .i64 0, .int .i64 0, .string ⟨#[]⟩, .bool false, .int .i64 0], .bool false]) (by simp [results, Tryz.f81, go_sem, d0, d1, d2, d3, d4, d5]) rfl ⟨rfl, HB2⟩
/-- What an array has at a place of a common shape. -/
def sprd (R C : Nat) (l : List Val) (row col : Nat) : Option Val := if (if R = 1 then 0 else row) < R ∧ (if C = 1 then 0 else col) < C then some (l.getD ((if R = 1 then 0 else row) * C + (if C = 1 then 0 else col)) zeroV) else none
def sprdT : Option Val → Value
  | some v => okT v true
  | none => okT zeroV false
theorem aspread_c (R C : Nat) (A : Option Addr) (n ca : Nat) (l : List Val) (w : World) (row col : Nat) (h : ArrR w R C A n l) :
    Calls Tryz.prog 81 #[.agg #[.int .i64 R, .int .i64 C, .slice A n ca], .int .i64 row, .int .i64 col] w fun e w' => e = .returned (sprdT (sprd R C l row col)) ∧ Below w.heap.size w w' := by
  have hlen : l.length = R * C := by have := h.right.len; exact_mod_cast this.symm
  have h1 := h.right.r1
  have h2 := h.right.c1
  have key : ∀ (p : Nat) (hp : p < l.length), l.getD p zeroV = l[p] := fun p hp => by rw [List.getD_eq_getElem?_getD, List.getElem?_eq_getElem hp]; rfl
  unfold sprd
  by_cases hR : R = 1
  · subst hR
    by_cases hC : C = 1
    · subst hC
      have hp : 0 < l.length := by rw [hlen]; omega
      rw [if_pos rfl, if_pos rfl, if_pos ⟨by omega, by omega⟩, show 0 * 1 + 0 = 0 from rfl, key 0 hp]
      exact aspread_11 0 A n ca l w row col h trivial hp
    · rw [if_pos rfl, if_neg hC]
      by_cases h3 : col < C
      · have hp : col < l.length := by rw [hlen]; omega
        rw [if_pos ⟨by omega, h3⟩, Nat.zero_mul, Nat.zero_add, key col hp]
        exact aspread_1c C A n ca l w row col h (by omega) h3 hp
      · rw [if_neg (fun k => h3 k.2)]
        exact aspread_o1c C A n ca w row col (by omega) h3
  · by_cases hC : C = 1
    · subst hC
      rw [if_neg hR, if_pos rfl]
      by_cases h3 : row < R
      · have hp : row < l.length := by rw [hlen]; omega
        rw [if_pos ⟨h3, by omega⟩, Nat.mul_one, Nat.add_zero, key row hp]
        exact aspread_r1 R A n ca l w row col h (by omega) h3 hp
      · rw [if_neg (fun k => h3 k.1)]
        exact aspread_or1 R A n ca w row col (by omega) h3
    · rw [if_neg hR, if_neg hC]
      by_cases h3 : row < R ∧ col < C
      · have hp : row * C + col < l.length := by
          rw [hlen]
          have : (row + 1) * C ≤ R * C := Nat.mul_le_mul_right C h3.1
          rw [Nat.succ_mul] at this
          omega
        rw [if_pos h3, key _ hp]
        exact aspread_rc R C _ _ A n ca l w row col h (by omega) (by omega) h3.1 h3.2 rfl rfl hp
      · rw [if_neg h3]
        exact aspread_orc R C A n ca w row col (by omega) (by omega) h3
end Go.Proofs.YtdmbppgogdkpdaaGreatDoor
namespace Go.Proofs.YtdmbppgogdkpdaaGreatDoor
open Go.RowKit
def fitsB (r c : Nat) : Bool := decide (1 ≤ r ∧ 1 ≤ c ∧ r ≤ 4096 ∧ r * c ≤ 4096)
theorem fitsN_c (r c : Nat) (w : World) : Calls Tryz.prog 125 #[.int .i64 r, .int .i64 c] w fun e w' => e = .returned (.bool (fitsB r c)) ∧ w' = w := by
  refine (fits_c r c w).mono ?_
  rintro e w' ⟨⟨b, rfl, hb⟩, rfl⟩
  refine ⟨?_, rfl⟩
  congr 2
  unfold fitsB
  cases b with
  | true =>
    obtain ⟨h1, h2, h3, h4⟩ := hb.1 rfl
    rw [← Int.natCast_mul] at h4
    exact (decide_eq_true ⟨by omega, by omega, by omega, by omega⟩).symm
  | false =>
    refine (decide_eq_false (fun h => ?_)).symm
    obtain ⟨h1, h2, h3, h4⟩ := h
    have := hb.2 ⟨by omega, by omega, by omega, by rw [← Int.natCast_mul]; omega⟩
    cases this
theorem shrightA_c {R C : Nat} {A : Option Addr} {n ca : Nat} {l : List Val} {w : World} (h : ArrR w R C A n l) : Calls Tryz.prog 75 #[.agg #[.int .i64 R, .int .i64 C, .slice A n ca]] w fun e w' => e = .returned (.bool true) ∧ Below w.heap.size w w' := by
  refine (shright_c R C A n ca l w h.many h.len h.le h.fits).mono ?_
  rintro e w' ⟨b, rfl, hb, hl⟩
  exact ⟨by rw [hb.2 h.right], hl⟩
def comV (R C : Nat) : Value := if fitsB R C then .tuple #[.int .i64 R, .int .i64 C, .bool true] else .tuple #[.int .i64 0, .int .i64 0, .bool false]
set_option maxRecDepth 100000 in
set_option maxHeartbeats 4000000 in
theorem common_c (R C R' C' : Nat) (A A' : Option Addr) (n ca n' ca' : Nat) (l l' : List Val) (w : World) (h : ArrR w R C A n l) (h' : ArrR w R' C' A' n' l') :
    Calls Tryz.prog 77 #[.agg #[.int .i64 R, .int .i64 C, .slice A n ca], .agg #[.int .i64 R', .int .i64 C', .slice A' n' ca']] w fun e w' => e = .returned (comV (max R R') (max C C')) ∧ Below w.heap.size w w' := by
  have HA := Lib.hid h
  have HA' := Lib.hid h'
  have B0 := Lib.hid (Bxs.start w [(28, #[.int .i64 R, .int .i64 C, .slice A n ca]), (28, #[.int .i64 R', .int .i64 C', .slice A' n' ca'])])
  simp only [allocAll] at B0
  obtain ⟨M, hM⟩ : ∃ M, max R R' = M := ⟨_, rfl⟩
  obtain ⟨N, hN⟩ : ∃ N, max C C' = N := ⟨_, rfl⟩
  have eM : max (R : Int) (R' : Int) = (M : Int) := by omega
  have eN : max (C : Int) (C' : Int) = (N : Int) := by omega
  rw [hM, hN]
  have HF := Lib.hid (fun W => fitsN_c M N W)
  clear h h' hM hN
  unfold comV
  cases hfit : fitsB M N with
  | false =>
    rw [hfit] at HF
    clear hfit
    simp only [Bool.false_eq_true, if_false, if_true]
    go_enter Tryz.func77, Tryz.ntmps77
    go_wp2_with fail
    refine (shrightA_c (HA.out.next B0.out.below)).mono ?_
    rintro z w1 ⟨rfl, hb⟩
    have B1 := Lib.hid (B0.out.next hb)
    clear hb B0
    have BX1 := Lib.hid (show Blk w1 (w.heap.size + 1) 28 #[.int .i64 R', .int .i64 C', .slice A' n' ca'] from B1.out.box 1 _ _ rfl)
    have a0 := BX1.out.cell 0
    have a1 := BX1.out.cell 1
    have a2 := BX1.out.cell 2
    simp only [List.getElem?_toArray, List.getElem?_cons_zero, List.getElem?_cons_succ] at a0 a1 a2
    go_wp2_with fail
    refine (shrightA_c (HA'.out.next B1.out.below)).mono ?_
    rintro z w2 ⟨rfl, hb⟩
    have B2 := Lib.hid (B1.out.next hb)
    clear hb B1 a0 a1 a2 BX1
    go_wp2_with fail
    have B3 := Lib.hid B2.out.drew
    have HC : AllCells w2.drew [(⟨w.heap.size, 0, none⟩, .int .i64 R), (⟨w.heap.size, 1, none⟩, .int .i64 C), (⟨w.heap.size + 1, 0, none⟩, .int .i64 R'), (⟨w.heap.size + 1, 1, none⟩, .int .i64 C')] :=
      ⟨(B3.out.box 0 _ _ rfl).cell 0, (B3.out.box 0 _ _ rfl).cell 1, (B3.out.box 1 _ _ rfl).cell 0, (B3.out.box 1 _ _ rfl).cell 1, trivial⟩
    clear B2
    refine region_free _ [0, 1, 2, 3, 5, 6, 7, 8] 4 (by kernel_rfl) (by kernel_rfl) (by kernel_rfl) (by kernel_rfl) (by kernel_rfl) (fun _ _ _ _ _ h => h) HC ?_
    intro hne hu
    simp only [AllCells] at hu
    simp only [pick, List.take_succ_cons, List.take_zero, List.drop_succ_cons, List.drop_zero, List.cons_append, List.nil_append]
    repeat (go_big_quiet_step (fail))
    refine wpQuiet_nil ?_
    clear hne hu
    refine anyN_twoL 4 9 (by kernel_rfl) ?_ ?_
    · simp only [List.take_succ_cons, List.take_zero, List.drop_succ_cons, List.drop_zero]
      go_wp2_with fail
      refine And.intro (fun _ => HC) ?_
      refine anyN_twoL 9 10 (by kernel_rfl) ?_ ?_
      · simp only [List.take_succ_cons, List.take_zero, List.drop_succ_cons, List.drop_zero]
        go_wp2_with fail
        refine And.intro (fun _ => HC) ?_
        refine anyN_oneL 10 (by kernel_rfl) ?_
        simp only [List.take_succ_cons, List.take_zero, List.drop_succ_cons, List.drop_zero]
        go_wp2_with fail
        refine And.intro (fun _ => HC) ?_
        refine anyN_oneL 11 (by kernel_rfl) ?_
        simp only [List.take_succ_cons, List.take_zero, List.drop_succ_cons, List.drop_zero]
        go_wp2_with fail
        refine And.intro (fun _ => HC) ?_
        refine ⟨by kernel_rfl, ?_⟩
        clear HC
        generalize w2.drew = w3 at *
        go_wp2_with fail
        refine (HF.out w3).mono ?_
        rintro z w4 ⟨rfl, rfl⟩
        go_wp2_with fail
        exact bodyPost_ret (v := .tuple #[.int .i64 0, .int .i64 0, .bool false]) (by simp [results, Tryz.f77, go_sem]) rfl ⟨rfl, B3.out.below⟩
      · simp only [List.take_succ_cons, List.take_zero, List.drop_succ_cons, List.drop_zero]
        go_wp2_with fail
        refine And.intro (fun _ => HC) ?_
        refine anyN_oneL 9 (by kernel_rfl) ?_
        simp only [List.take_succ_cons, List.take_zero, List.drop_succ_cons, List.drop_zero]
        go_wp2_with fail
        refine And.intro (fun _ => HC) ?_
        refine anyN_oneL 11 (by kernel_rfl) ?_
        simp only [List.take_succ_cons, List.take_zero, List.drop_succ_cons, List.drop_zero]
        go_wp2_with fail
        refine And.intro (fun _ => HC) ?_
        refine ⟨by kernel_rfl, ?_⟩
        clear HC
        generalize w2.drew = w3 at *
        go_wp2_with fail
        refine (HF.out w3).mono ?_
        rintro z w4 ⟨rfl, rfl⟩
        go_wp2_with fail
        exact bodyPost_ret (v := .tuple #[.int .i64 0, .int .i64 0, .bool false]) (by simp [results, Tryz.f77, go_sem]) rfl ⟨rfl, B3.out.below⟩
    · simp only [List.take_succ_cons, List.take_zero, List.drop_succ_cons, List.drop_zero]
      go_wp2_with fail
      refine And.intro (fun _ => HC) ?_
      refine anyN_oneL 4 (by kernel_rfl) ?_
      simp only [List.take_succ_cons, List.take_zero, List.drop_succ_cons, List.drop_zero]
      go_wp2_with fail
      refine And.intro (fun _ => HC) ?_
      refine anyN_oneL 10 (by kernel_rfl) ?_
      simp only [List.take_succ_cons, List.take_zero, List.drop_succ_cons, List.drop_zero]
      go_wp2_with fail
      refine And.intro (fun _ => HC) ?_
      refine anyN_oneL 11 (by kernel_rfl) ?_
      simp only [List.take_succ_cons, List.take_zero, List.drop_succ_cons, List.drop_zero]
      go_wp2_with fail
      refine And.intro (fun _ => HC) ?_
      refine ⟨by kernel_rfl, ?_⟩
      clear HC
      generalize w2.drew = w3 at *
      go_wp2_with fail
      refine (HF.out w3).mono ?_
      rintro z w4 ⟨rfl, rfl⟩
      go_wp2_with fail
      exact bodyPost_ret (v := .tuple #[.int .i64 0, .int .i64 0, .bool false]) (by simp [results, Tryz.f77, go_sem]) rfl ⟨rfl, B3.out.below⟩
  | true =>
    rw [hfit] at HF
    clear hfit
    simp only [Bool.false_eq_true, if_false, if_true]
    go_enter Tryz.func77, Tryz.ntmps77
    go_wp2_with fail
    refine (shrightA_c (HA.out.next B0.out.below)).mono ?_
    rintro z w1 ⟨rfl, hb⟩
    have B1 := Lib.hid (B0.out.next hb)
    clear hb B0
    have BX1 := Lib.hid (show Blk w1 (w.heap.size + 1) 28 #[.int .i64 R', .int .i64 C', .slice A' n' ca'] from B1.out.box 1 _ _ rfl)
    have a0 := BX1.out.cell 0
    have a1 := BX1.out.cell 1
    have a2 := BX1.out.cell 2
    simp only [List.getElem?_toArray, List.getElem?_cons_zero, List.getElem?_cons_succ] at a0 a1 a2
    go_wp2_with fail
    refine (shrightA_c (HA'.out.next B1.out.below)).mono ?_
    rintro z w2 ⟨rfl, hb⟩
    have B2 := Lib.hid (B1.out.next hb)
    clear hb B1 a0 a1 a2 BX1
    go_wp2_with fail
    have B3 := Lib.hid B2.out.drew
    have HC : AllCells w2.drew [(⟨w.heap.size, 0, none⟩, .int .i64 R), (⟨w.heap.size, 1, none⟩, .int .i64 C), (⟨w.heap.size + 1, 0, none⟩, .int .i64 R'), (⟨w.heap.size + 1, 1, none⟩, .int .i64 C')] :=
      ⟨(B3.out.box 0 _ _ rfl).cell 0, (B3.out.box 0 _ _ rfl).cell 1, (B3.out.box 1 _ _ rfl).cell 0, (B3.out.box 1 _ _ rfl).cell 1, trivial⟩
    clear B2
    refine region_free _ [0, 1, 2, 3, 5, 6, 7, 8] 4 (by kernel_rfl) (by kernel_rfl) (by kernel_rfl) (by kernel_rfl) (by kernel_rfl) (fun _ _ _ _ _ h => h) HC ?_
    intro hne hu
    simp only [AllCells] at hu
    simp only [pick, List.take_succ_cons, List.take_zero, List.drop_succ_cons, List.drop_zero, List.cons_append, List.nil_append]
    repeat (go_big_quiet_step (fail))
    refine wpQuiet_nil ?_
    clear hne hu
    refine anyN_twoL 4 9 (by kernel_rfl) ?_ ?_
    · simp only [List.take_succ_cons, List.take_zero, List.drop_succ_cons, List.drop_zero]
      go_wp2_with fail
      refine And.intro (fun _ => HC) ?_
      refine anyN_twoL 9 10 (by kernel_rfl) ?_ ?_
      · simp only [List.take_succ_cons, List.take_zero, List.drop_succ_cons, List.drop_zero]
        go_wp2_with fail
        refine And.intro (fun _ => HC) ?_
        refine anyN_oneL 10 (by kernel_rfl) ?_
        simp only [List.take_succ_cons, List.take_zero, List.drop_succ_cons, List.drop_zero]
        go_wp2_with fail
        refine And.intro (fun _ => HC) ?_
        refine anyN_oneL 11 (by kernel_rfl) ?_
        simp only [List.take_succ_cons, List.take_zero, List.drop_succ_cons, List.drop_zero]
        go_wp2_with fail
        refine And.intro (fun _ => HC) ?_
        refine ⟨by kernel_rfl, ?_⟩
        clear HC
        generalize w2.drew = w3 at *
        go_wp2_with fail
        refine (HF.out w3).mono ?_
        rintro z w4 ⟨rfl, rfl⟩
        go_wp2_with fail
        exact bodyPost_ret (v := .tuple #[.int .i64 M, .int .i64 N, .bool true]) (by simp [results, Tryz.f77, go_sem]) rfl ⟨rfl, B3.out.below⟩
      · simp only [List.take_succ_cons, List.take_zero, List.drop_succ_cons, List.drop_zero]
        go_wp2_with fail
        refine And.intro (fun _ => HC) ?_
        refine anyN_oneL 9 (by kernel_rfl) ?_
        simp only [List.take_succ_cons, List.take_zero, List.drop_succ_cons, List.drop_zero]
        go_wp2_with fail
        refine And.intro (fun _ => HC) ?_
        refine anyN_oneL 11 (by kernel_rfl) ?_
        simp only [List.take_succ_cons, List.take_zero, List.drop_succ_cons, List.drop_zero]
        go_wp2_with fail
        refine And.intro (fun _ => HC) ?_
        refine ⟨by kernel_rfl, ?_⟩
        clear HC
        generalize w2.drew = w3 at *
        go_wp2_with fail
        refine (HF.out w3).mono ?_
        rintro z w4 ⟨rfl, rfl⟩
        go_wp2_with fail
        exact bodyPost_ret (v := .tuple #[.int .i64 M, .int .i64 N, .bool true]) (by simp [results, Tryz.f77, go_sem]) rfl ⟨rfl, B3.out.below⟩
    · simp only [List.take_succ_cons, List.take_zero, List.drop_succ_cons, List.drop_zero]
      go_wp2_with fail
      refine And.intro (fun _ => HC) ?_
      refine anyN_oneL 4 (by kernel_rfl) ?_
      simp only [List.take_succ_cons, List.take_zero, List.drop_succ_cons, List.drop_zero]
      go_wp2_with fail
      refine And.intro (fun _ => HC) ?_
      refine anyN_oneL 10 (by kernel_rfl) ?_
      simp only [List.take_succ_cons, List.take_zero, List.drop_succ_cons, List.drop_zero]
      go_wp2_with fail
      refine And.intro (fun _ => HC) ?_
      refine anyN_oneL 11 (by kernel_rfl) ?_
      simp only [List.take_succ_cons, List.take_zero, List.drop_succ_cons, List.drop_zero]
      go_wp2_with fail
      refine And.intro (fun _ => HC) ?_
      refine ⟨by kernel_rfl, ?_⟩
      clear HC
      generalize w2.drew = w3 at *
      go_wp2_with fail
      refine (HF.out w3).mono ?_
      rintro z w4 ⟨rfl, rfl⟩
      go_wp2_with fail
      exact bodyPost_ret (v := .tuple #[.int .i64 M, .int .i64 N, .bool true]) (by simp [results, Tryz.f77, go_sem]) rfl ⟨rfl, B3.out.below⟩
end Go.Proofs.YtdmbppgogdkpdaaGreatDoor
namespace Go.Proofs.YtdmbppgogdkpdaaGreatDoor
open Go.RowKit
theorem sprd_mem {R C : Nat} {l : List Val} {row col : Nat} {v : Val} (h : sprd R C l row col = some v) (hl : l.length = R * C) : v ∈ l := by
  unfold sprd at h
  generalize (if R = 1 then 0 else row) = r at h
  generalize (if C = 1 then 0 else col) = c at h
  by_cases h1 : r < R ∧ c < C
  · rw [if_pos h1] at h
    cases h
    have hp : r * C + c < l.length := by
      rw [hl]
      have : (r + 1) * C ≤ R * C := Nat.mul_le_mul_right C h1.1
      rw [Nat.succ_mul] at this
      omega
    rw [List.getD_eq_getElem?_getD, List.getElem?_eq_getElem hp]
    exact List.getElem_mem hp
  · rw [if_neg h1] at h
    cases h
/-- What two have at a place. -/
def bothV (g : Val → Val → Val) : Option Val → Option Val → Val
  | some x, some y => g x y
  | _, _ => badV 6
set_option maxRecDepth 100000 in
theorem eqnilReck (fb : Nat) (W : World) : Sem.run Tryz.prog (binOp BinOp.eql 63 (.func (.func 102) #[] #[.pointer (some ⟨fb, 0, none⟩)]) Value.nilFunc) W = .ok (.bool false) W := by kernel_rfl
set_option maxRecDepth 100000 in
set_option maxHeartbeats 8000000 in
theorem both1Reck_c (fb : Nat) (row col R C R' C' : Nat) (A A' : Option Addr) (n ca n' ca' ba bb bf : Nat) (l l' : List Val) (w : World) (hba : Blk w ba 28 #[.int .i64 R, .int .i64 C, .slice A n ca]) (hbb : Blk w bb 28 #[.int .i64 R', .int .i64 C', .slice A' n' ca']) (hbf : w.cell? ⟨bf, 0, none⟩ = some (.func (.func 102) #[] #[.pointer (some ⟨fb, 0, none⟩)])) (h : ArrR w R C A n l) (h' : ArrR w R' C' A' n' l') (g : Val → Val → Val)
    (hg : ∀ x ∈ l, ∀ y ∈ l', (∀ W, Below w.heap.size w W → Calls Tryz.prog 102 (#[.agg x.cs.toArray, .agg y.cs.toArray] ++ #[.pointer (some ⟨fb, 0, none⟩)]) W (RetV W (g x y))) ∧ RightV (g x y) ∧ FitsV (g x y)) :
    Calls Tryz.prog 80 (#[.int .i64 row, .int .i64 col] ++ #[.pointer (some ⟨ba, 0, none⟩), .pointer (some ⟨bb, 0, none⟩), .pointer (some ⟨bf, 0, none⟩)]) w (RetV w (bothV g (sprd R C l row col) (sprd R' C' l' row col))) := by
  have hlen : l.length = R * C := by have := h.right.len; exact_mod_cast this.symm
  have hlen' : l'.length = R' * C' := by have := h'.right.len; exact_mod_cast this.symm
  have HA := Lib.hid (fun W (hW : Below w.heap.size w W) => aspread_c R C A n ca l W row col (h.next hW))
  have HA' := Lib.hid (fun W (hW : Below w.heap.size w W) => aspread_c R' C' A' n' ca' l' W row col (h'.next hW))
  have HBA := Lib.hid hba
  have HBB := Lib.hid hbb
  have lbf := World.block_lt_of_cell? w _ hbf
  have HBF := Lib.hid (fun W (hW : Below w.heap.size w W) => (hW.cell (p := ⟨bf, 0, none⟩) lbf).trans hbf)
  have B0 := Lib.hid (Bxs.start w [(41, #[.int .i64 0, .int .i64 0, .int .i64 0, .string ⟨#[]⟩, .bool false, .int .i64 0])])
  simp only [allocAll] at B0
  have HG : Hid (∀ x y, sprd R C l row col = some x → sprd R' C' l' row col = some y → (∀ W, Below w.heap.size w W → Calls Tryz.prog 102 (#[.agg x.cs.toArray, .agg y.cs.toArray] ++ #[.pointer (some ⟨fb, 0, none⟩)]) W (RetV W (g x y))) ∧ RightV (g x y) ∧ FitsV (g x y)) := Lib.hid (fun x y hx hy => hg x (sprd_mem hx hlen) y (sprd_mem hy hlen'))
  clear hba hbb hbf h h' hg hlen hlen' lbf
  generalize sprd R C l row col = ox at *
  generalize sprd R' C' l' row col = oy at *
  have HBA0 := Lib.hid (HBA.out.kept (B0.out.below.block _ HBA.out.lt))
  have a0 := (HBA0.out).cell 0
  have a1 := (HBA0.out).cell 1
  have a2 := (HBA0.out).cell 2
  simp only [List.getElem?_toArray, List.getElem?_cons_zero, List.getElem?_cons_succ] at a0 a1 a2
  cases ox with
  | none =>
    have e1 : bothV g none oy = badV 6 := by cases oy <;> rfl
    rw [e1, badV_in (by omega)]
    clear HG e1
    cases oy with
    | none =>
      skip
      go_enter Tryz.func80, Tryz.ntmps80
      go_wp2_with fail
      refine (HA.out _ B0.out.below).mono ?_
      rintro z w1 ⟨rfl, hb⟩
      have B1 := Lib.hid (B0.out.next hb)
      clear hb B0 a0 a1 a2 HBA0
      simp only [sprdT, okT, Val.cs, zeroV]
      have hal := (Below.refl _ w1).alloc (Nat.le_refl _) (.cells #[.int .i64 0, .int .i64 0, .int .i64 0, .string ⟨#[]⟩, .bool false, .int .i64 0] 41)
      have B2 := Lib.hid (B1.out.next hal)
      have BX := Lib.hid (Blk.new w1 41 #[.int .i64 0, .int .i64 0, .int .i64 0, .string ⟨#[]⟩, .bool false, .int .i64 0])
      clear hal B1
      have HBB0 := Lib.hid (HBB.out.kept (B2.out.below.block _ HBB.out.lt))
      have a0 := (HBB0.out).cell 0
      have a1 := (HBB0.out).cell 1
      have a2 := (HBB0.out).cell 2
      simp only [List.getElem?_toArray, List.getElem?_cons_zero, List.getElem?_cons_succ] at a0 a1 a2
      go_wp2_with fail
      generalize w1.alloc (.cells #[.int .i64 0, .int .i64 0, .int .i64 0, .string ⟨#[]⟩, .bool false, .int .i64 0] 41) = V1 at *
      generalize w1.heap.size = X1 at *
      refine (HA'.out _ B2.out.below).mono ?_
      rintro z w2 ⟨rfl, hb⟩
      have B3 := Lib.hid (B2.out.next hb)
      have BX2 := Lib.hid (BX.out.kept (hb.block _ BX.out.lt))
      clear hb B2 a0 a1 a2 HBB0 BX
      simp only [sprdT, okT, Val.cs, zeroV]
      have hal := (Below.refl _ w2).alloc (Nat.le_refl _) (.cells #[.int .i64 0, .int .i64 0, .int .i64 0, .string ⟨#[]⟩, .bool false, .int .i64 0] 41)
      have B4 := Lib.hid (B3.out.next hal)
      have BX3 := Lib.hid (BX2.out.kept (hal.block _ BX2.out.lt))
      have BY3 := Lib.hid (Blk.new w2 41 #[.int .i64 0, .int .i64 0, .int .i64 0, .string ⟨#[]⟩, .bool false, .int .i64 0])
      clear hal B3 BX2
      go_wp2_with fail
      generalize w2.alloc (.cells #[.int .i64 0, .int .i64 0, .int .i64 0, .string ⟨#[]⟩, .bool false, .int .i64 0] 41) = V2 at *
      generalize w2.heap.size = X2 at *
      refine (vbadn_c 6 (by omega) _).mono ?_
      rintro z w3 ⟨rfl, hb⟩
      have B5 := Lib.hid (B4.out.next hb)
      clear hb B4 BX3 BY3
      have BZ := Lib.hid (show Blk w3 w.heap.size 41 #[.int .i64 0, .int .i64 0, .int .i64 0, .string ⟨#[]⟩, .bool false, .int .i64 0] from B5.out.box 0 _ _ rfl)
      have HB1 := Lib.hid B5.out.below
      have e0 := BZ.out.cell 0
      have e1 := BZ.out.cell 1
      have e2 := BZ.out.cell 2
      have e3 := BZ.out.cell 3
      have e4 := BZ.out.cell 4
      have e5 := BZ.out.cell 5
      simp only [List.getElem?_toArray, List.getElem?_cons_zero, List.getElem?_cons_succ] at e0 e1 e2 e3 e4 e5
      have f0 := BZ.out.frozen 0
      have f1 := BZ.out.frozen 1
      have f2 := BZ.out.frozen 2
      have f3 := BZ.out.frozen 3
      have f4 := BZ.out.frozen 4
      have f5 := BZ.out.frozen 5
      have lX := BZ.out.lt
      go_wp2_with fail
      change bodyPost _ _ _ _ _ (put6 w3 w.heap.size (.int .i64 4) (.int .i64 0) (.int .i64 0) (.string ⟨#[]⟩) (.bool false) (.int .i64 6))
      have bX2 := Lib.hid (blk_put6 BZ.out (.int .i64 4) (.int .i64 0) (.int .i64 0) (.string ⟨#[]⟩) (.bool false) (.int .i64 6))
      have HB2 := below_put6 HB1.out (Nat.le_refl _) (.int .i64 4) (.int .i64 0) (.int .i64 0) (.string ⟨#[]⟩) (.bool false) (.int .i64 6)
      clear e0 e1 e2 e3 e4 e5 f0 f1 f2 f3 f4 f5 lX
      generalize put6 w3 w.heap.size (.int .i64 4) (.int .i64 0) (.int .i64 0) (.string ⟨#[]⟩) (.bool false) (.int .i64 6) = W2 at *
      have d0 := bX2.out.cell 0
      have d1 := bX2.out.cell 1
      have d2 := bX2.out.cell 2
      have d3 := bX2.out.cell 3
      have d4 := bX2.out.cell 4
      have d5 := bX2.out.cell 5
      simp only [List.getElem?_toArray, List.getElem?_cons_zero, List.getElem?_cons_succ] at d0 d1 d2 d3 d4 d5
      exact bodyPost_ret (v := .agg #[.int .i64 4, .int .i64 0, .int .i64 0, .string ⟨#[]⟩, .bool false, .int .i64 6]) (by simp [results, Tryz.f80, go_sem, d0, d1, d2, d3, d4, d5]) rfl ⟨rfl, HB2⟩
    | some y =>
      obtain ⟨y0, y1, y2, y3, y4, y5⟩ := y
      go_enter Tryz.func80, Tryz.ntmps80
      go_wp2_with fail
      refine (HA.out _ B0.out.below).mono ?_
      rintro z w1 ⟨rfl, hb⟩
      have B1 := Lib.hid (B0.out.next hb)
      clear hb B0 a0 a1 a2 HBA0
      simp only [sprdT, okT, Val.cs, zeroV]
      have hal := (Below.refl _ w1).alloc (Nat.le_refl _) (.cells #[.int .i64 0, .int .i64 0, .int .i64 0, .string ⟨#[]⟩, .bool false, .int .i64 0] 41)
      have B2 := Lib.hid (B1.out.next hal)
      have BX := Lib.hid (Blk.new w1 41 #[.int .i64 0, .int .i64 0, .int .i64 0, .string ⟨#[]⟩, .bool false, .int .i64 0])
      clear hal B1
      have HBB0 := Lib.hid (HBB.out.kept (B2.out.below.block _ HBB.out.lt))
      have a0 := (HBB0.out).cell 0
      have a1 := (HBB0.out).cell 1
      have a2 := (HBB0.out).cell 2
      simp only [List.getElem?_toArray, List.getElem?_cons_zero, List.getElem?_cons_succ] at a0 a1 a2
      go_wp2_with fail
      generalize w1.alloc (.cells #[.int .i64 0, .int .i64 0, .int .i64 0, .string ⟨#[]⟩, .bool false, .int .i64 0] 41) = V1 at *
      generalize w1.heap.size = X1 at *
      refine (HA'.out _ B2.out.below).mono ?_
      rintro z w2 ⟨rfl, hb⟩
      have B3 := Lib.hid (B2.out.next hb)
      have BX2 := Lib.hid (BX.out.kept (hb.block _ BX.out.lt))
      clear hb B2 a0 a1 a2 HBB0 BX
      simp only [sprdT, okT, Val.cs, zeroV]
      have hal := (Below.refl _ w2).alloc (Nat.le_refl _) (.cells #[.int .i64 y0, .int .i64 y1, .int .i64 y2, .string y3, .bool y4, .int .i64 y5] 41)
      have B4 := Lib.hid (B3.out.next hal)
      have BX3 := Lib.hid (BX2.out.kept (hal.block _ BX2.out.lt))
      have BY3 := Lib.hid (Blk.new w2 41 #[.int .i64 y0, .int .i64 y1, .int .i64 y2, .string y3, .bool y4, .int .i64 y5])
      clear hal B3 BX2
      go_wp2_with fail
      generalize w2.alloc (.cells #[.int .i64 y0, .int .i64 y1, .int .i64 y2, .string y3, .bool y4, .int .i64 y5] 41) = V2 at *
      generalize w2.heap.size = X2 at *
      refine (vbadn_c 6 (by omega) _).mono ?_
      rintro z w3 ⟨rfl, hb⟩
      have B5 := Lib.hid (B4.out.next hb)
      clear hb B4 BX3 BY3
      have BZ := Lib.hid (show Blk w3 w.heap.size 41 #[.int .i64 0, .int .i64 0, .int .i64 0, .string ⟨#[]⟩, .bool false, .int .i64 0] from B5.out.box 0 _ _ rfl)
      have HB1 := Lib.hid B5.out.below
      have e0 := BZ.out.cell 0
      have e1 := BZ.out.cell 1
      have e2 := BZ.out.cell 2
      have e3 := BZ.out.cell 3
      have e4 := BZ.out.cell 4
      have e5 := BZ.out.cell 5
      simp only [List.getElem?_toArray, List.getElem?_cons_zero, List.getElem?_cons_succ] at e0 e1 e2 e3 e4 e5
      have f0 := BZ.out.frozen 0
      have f1 := BZ.out.frozen 1
      have f2 := BZ.out.frozen 2
      have f3 := BZ.out.frozen 3
      have f4 := BZ.out.frozen 4
      have f5 := BZ.out.frozen 5
      have lX := BZ.out.lt
      go_wp2_with fail
      change bodyPost _ _ _ _ _ (put6 w3 w.heap.size (.int .i64 4) (.int .i64 0) (.int .i64 0) (.string ⟨#[]⟩) (.bool false) (.int .i64 6))
      have bX2 := Lib.hid (blk_put6 BZ.out (.int .i64 4) (.int .i64 0) (.int .i64 0) (.string ⟨#[]⟩) (.bool false) (.int .i64 6))
      have HB2 := below_put6 HB1.out (Nat.le_refl _) (.int .i64 4) (.int .i64 0) (.int .i64 0) (.string ⟨#[]⟩) (.bool false) (.int .i64 6)
      clear e0 e1 e2 e3 e4 e5 f0 f1 f2 f3 f4 f5 lX
      generalize put6 w3 w.heap.size (.int .i64 4) (.int .i64 0) (.int .i64 0) (.string ⟨#[]⟩) (.bool false) (.int .i64 6) = W2 at *
      have d0 := bX2.out.cell 0
      have d1 := bX2.out.cell 1
      have d2 := bX2.out.cell 2
      have d3 := bX2.out.cell 3
      have d4 := bX2.out.cell 4
      have d5 := bX2.out.cell 5
      simp only [List.getElem?_toArray, List.getElem?_cons_zero, List.getElem?_cons_succ] at d0 d1 d2 d3 d4 d5
      exact bodyPost_ret (v := .agg #[.int .i64 4, .int .i64 0, .int .i64 0, .string ⟨#[]⟩, .bool false, .int .i64 6]) (by simp [results, Tryz.f80, go_sem, d0, d1, d2, d3, d4, d5]) rfl ⟨rfl, HB2⟩
  | some x =>
    cases oy with
    | none =>
      have e1 : bothV g (some x) none = badV 6 := rfl
      rw [e1, badV_in (by omega)]
      clear HG e1
      obtain ⟨x0, x1, x2, x3, x4, x5⟩ := x
      go_enter Tryz.func80, Tryz.ntmps80
      go_wp2_with fail
      refine (HA.out _ B0.out.below).mono ?_
      rintro z w1 ⟨rfl, hb⟩
      have B1 := Lib.hid (B0.out.next hb)
      clear hb B0 a0 a1 a2 HBA0
      simp only [sprdT, okT, Val.cs, zeroV]
      have hal := (Below.refl _ w1).alloc (Nat.le_refl _) (.cells #[.int .i64 x0, .int .i64 x1, .int .i64 x2, .string x3, .bool x4, .int .i64 x5] 41)
      have B2 := Lib.hid (B1.out.next hal)
      have BX := Lib.hid (Blk.new w1 41 #[.int .i64 x0, .int .i64 x1, .int .i64 x2, .string x3, .bool x4, .int .i64 x5])
      clear hal B1
      have HBB0 := Lib.hid (HBB.out.kept (B2.out.below.block _ HBB.out.lt))
      have a0 := (HBB0.out).cell 0
      have a1 := (HBB0.out).cell 1
      have a2 := (HBB0.out).cell 2
      simp only [List.getElem?_toArray, List.getElem?_cons_zero, List.getElem?_cons_succ] at a0 a1 a2
      go_wp2_with fail
      generalize w1.alloc (.cells #[.int .i64 x0, .int .i64 x1, .int .i64 x2, .string x3, .bool x4, .int .i64 x5] 41) = V1 at *
      generalize w1.heap.size = X1 at *
      refine (HA'.out _ B2.out.below).mono ?_
      rintro z w2 ⟨rfl, hb⟩
      have B3 := Lib.hid (B2.out.next hb)
      have BX2 := Lib.hid (BX.out.kept (hb.block _ BX.out.lt))
      clear hb B2 a0 a1 a2 HBB0 BX
      simp only [sprdT, okT, Val.cs, zeroV]
      have hal := (Below.refl _ w2).alloc (Nat.le_refl _) (.cells #[.int .i64 0, .int .i64 0, .int .i64 0, .string ⟨#[]⟩, .bool false, .int .i64 0] 41)
      have B4 := Lib.hid (B3.out.next hal)
      have BX3 := Lib.hid (BX2.out.kept (hal.block _ BX2.out.lt))
      have BY3 := Lib.hid (Blk.new w2 41 #[.int .i64 0, .int .i64 0, .int .i64 0, .string ⟨#[]⟩, .bool false, .int .i64 0])
      clear hal B3 BX2
      go_wp2_with fail
      generalize w2.alloc (.cells #[.int .i64 0, .int .i64 0, .int .i64 0, .string ⟨#[]⟩, .bool false, .int .i64 0] 41) = V2 at *
      generalize w2.heap.size = X2 at *
      refine (vbadn_c 6 (by omega) _).mono ?_
      rintro z w3 ⟨rfl, hb⟩
      have B5 := Lib.hid (B4.out.next hb)
      clear hb B4 BX3 BY3
      have BZ := Lib.hid (show Blk w3 w.heap.size 41 #[.int .i64 0, .int .i64 0, .int .i64 0, .string ⟨#[]⟩, .bool false, .int .i64 0] from B5.out.box 0 _ _ rfl)
      have HB1 := Lib.hid B5.out.below
      have e0 := BZ.out.cell 0
      have e1 := BZ.out.cell 1
      have e2 := BZ.out.cell 2
      have e3 := BZ.out.cell 3
      have e4 := BZ.out.cell 4
      have e5 := BZ.out.cell 5
      simp only [List.getElem?_toArray, List.getElem?_cons_zero, List.getElem?_cons_succ] at e0 e1 e2 e3 e4 e5
      have f0 := BZ.out.frozen 0
      have f1 := BZ.out.frozen 1
      have f2 := BZ.out.frozen 2
      have f3 := BZ.out.frozen 3
      have f4 := BZ.out.frozen 4
      have f5 := BZ.out.frozen 5
      have lX := BZ.out.lt
      go_wp2_with fail
      change bodyPost _ _ _ _ _ (put6 w3 w.heap.size (.int .i64 4) (.int .i64 0) (.int .i64 0) (.string ⟨#[]⟩) (.bool false) (.int .i64 6))
      have bX2 := Lib.hid (blk_put6 BZ.out (.int .i64 4) (.int .i64 0) (.int .i64 0) (.string ⟨#[]⟩) (.bool false) (.int .i64 6))
      have HB2 := below_put6 HB1.out (Nat.le_refl _) (.int .i64 4) (.int .i64 0) (.int .i64 0) (.string ⟨#[]⟩) (.bool false) (.int .i64 6)
      clear e0 e1 e2 e3 e4 e5 f0 f1 f2 f3 f4 f5 lX
      generalize put6 w3 w.heap.size (.int .i64 4) (.int .i64 0) (.int .i64 0) (.string ⟨#[]⟩) (.bool false) (.int .i64 6) = W2 at *
      have d0 := bX2.out.cell 0
      have d1 := bX2.out.cell 1
      have d2 := bX2.out.cell 2
      have d3 := bX2.out.cell 3
      have d4 := bX2.out.cell 4
      have d5 := bX2.out.cell 5
      simp only [List.getElem?_toArray, List.getElem?_cons_zero, List.getElem?_cons_succ] at d0 d1 d2 d3 d4 d5
      exact bodyPost_ret (v := .agg #[.int .i64 4, .int .i64 0, .int .i64 0, .string ⟨#[]⟩, .bool false, .int .i64 6]) (by simp [results, Tryz.f80, go_sem, d0, d1, d2, d3, d4, d5]) rfl ⟨rfl, HB2⟩
    | some y =>
      show Calls _ _ _ _ (RetV w (g x y))
      have HGX := Lib.hid (HG.out x y rfl rfl)
      clear HG
      have HCALL := Lib.hid HGX.out.1
      have HSO := Lib.hid (fun W => sound_c (g x y) HGX.out.2.1 HGX.out.2.2 W)
      clear HGX
      obtain ⟨u, hu⟩ : ∃ u, g x y = u := ⟨_, rfl⟩
      rw [hu] at HCALL HSO ⊢
      clear hu
      obtain ⟨u0, u1, u2, u3, u4, u5⟩ := u
      obtain ⟨x0, x1, x2, x3, x4, x5⟩ := x
      obtain ⟨y0, y1, y2, y3, y4, y5⟩ := y
      go_enter Tryz.func80, Tryz.ntmps80
      go_wp2_with fail
      refine (HA.out _ B0.out.below).mono ?_
      rintro z w1 ⟨rfl, hb⟩
      have B1 := Lib.hid (B0.out.next hb)
      clear hb B0 a0 a1 a2 HBA0
      simp only [sprdT, okT, Val.cs, zeroV]
      have hal := (Below.refl _ w1).alloc (Nat.le_refl _) (.cells #[.int .i64 x0, .int .i64 x1, .int .i64 x2, .string x3, .bool x4, .int .i64 x5] 41)
      have B2 := Lib.hid (B1.out.next hal)
      have BX := Lib.hid (Blk.new w1 41 #[.int .i64 x0, .int .i64 x1, .int .i64 x2, .string x3, .bool x4, .int .i64 x5])
      clear hal B1
      have HBB0 := Lib.hid (HBB.out.kept (B2.out.below.block _ HBB.out.lt))
      have a0 := (HBB0.out).cell 0
      have a1 := (HBB0.out).cell 1
      have a2 := (HBB0.out).cell 2
      simp only [List.getElem?_toArray, List.getElem?_cons_zero, List.getElem?_cons_succ] at a0 a1 a2
      go_wp2_with fail
      generalize w1.alloc (.cells #[.int .i64 x0, .int .i64 x1, .int .i64 x2, .string x3, .bool x4, .int .i64 x5] 41) = V1 at *
      generalize w1.heap.size = X1 at *
      refine (HA'.out _ B2.out.below).mono ?_
      rintro z w2 ⟨rfl, hb⟩
      have B3 := Lib.hid (B2.out.next hb)
      have BX2 := Lib.hid (BX.out.kept (hb.block _ BX.out.lt))
      clear hb B2 a0 a1 a2 HBB0 BX
      simp only [sprdT, okT, Val.cs, zeroV]
      have hal := (Below.refl _ w2).alloc (Nat.le_refl _) (.cells #[.int .i64 y0, .int .i64 y1, .int .i64 y2, .string y3, .bool y4, .int .i64 y5] 41)
      have B4 := Lib.hid (B3.out.next hal)
      have BX3 := Lib.hid (BX2.out.kept (hal.block _ BX2.out.lt))
      have BY3 := Lib.hid (Blk.new w2 41 #[.int .i64 y0, .int .i64 y1, .int .i64 y2, .string y3, .bool y4, .int .i64 y5])
      clear hal B3 BX2
      have hbf4 := HBF.out _ B4.out.below
      have HBF4 := Lib.hid hbf4
      go_wp2_with fail
      refine upon_run (eqnilReck _ _) ?_
      generalize w2.alloc (.cells #[.int .i64 y0, .int .i64 y1, .int .i64 y2, .string y3, .bool y4, .int .i64 y5] 41) = V2 at *
      generalize w2.heap.size = X2 at *
      have p0 := BX3.out.cell 0
      have p1 := BX3.out.cell 1
      have p2 := BX3.out.cell 2
      have p3 := BX3.out.cell 3
      have p4 := BX3.out.cell 4
      have p5 := BX3.out.cell 5
      simp only [List.getElem?_toArray, List.getElem?_cons_zero, List.getElem?_cons_succ] at p0 p1 p2 p3 p4 p5
      have q0 := BY3.out.cell 0
      have q1 := BY3.out.cell 1
      have q2 := BY3.out.cell 2
      have q3 := BY3.out.cell 3
      have q4 := BY3.out.cell 4
      have q5 := BY3.out.cell 5
      simp only [List.getElem?_toArray, List.getElem?_cons_zero, List.getElem?_cons_succ] at q0 q1 q2 q3 q4 q5
      go_wp2_with fail
      refine (HCALL.out _ B4.out.below).mono ?_
      rintro z w3 ⟨rfl, hb⟩
      have B5 := Lib.hid (B4.out.next hb)
      clear hb B4 BX3 BY3 HCALL p0 p1 p2 p3 p4 p5 q0 q1 q2 q3 q4 q5 hbf4 HBF4
      simp only [Val.cs]
      go_wp2_with fail
      refine (HSO.out _).mono ?_
      rintro z w4 ⟨rfl, hb⟩
      have B6 := Lib.hid (B5.out.next hb)
      clear hb B5
      simp only [Val.cs]
      have BZ := Lib.hid (show Blk w4 w.heap.size 41 #[.int .i64 0, .int .i64 0, .int .i64 0, .string ⟨#[]⟩, .bool false, .int .i64 0] from B6.out.box 0 _ _ rfl)
      have HB1 := Lib.hid B6.out.below
      have e0 := BZ.out.cell 0
      have e1 := BZ.out.cell 1
      have e2 := BZ.out.cell 2
      have e3 := BZ.out.cell 3
      have e4 := BZ.out.cell 4
      have e5 := BZ.out.cell 5
      simp only [List.getElem?_toArray, List.getElem?_cons_zero, List.getElem?_cons_succ] at e0 e1 e2 e3 e4 e5
      have f0 := BZ.out.frozen 0
      have f1 := BZ.out.frozen 1
      have f2 := BZ.out.frozen 2
      have f3 := BZ.out.frozen 3
      have f4 := BZ.out.frozen 4
      have f5 := BZ.out.frozen 5
      have lX := BZ.out.lt
      go_wp2_with fail
      change bodyPost _ _ _ _ _ (put6 w4 w.heap.size (.int .i64 u0) (.int .i64 u1) (.int .i64 u2) (.string u3) (.bool u4) (.int .i64 u5))
      have bX2 := Lib.hid (blk_put6 BZ.out (.int .i64 u0) (.int .i64 u1) (.int .i64 u2) (.string u3) (.bool u4) (.int .i64 u5))
      have HB2 := below_put6 HB1.out (Nat.le_refl _) (.int .i64 u0) (.int .i64 u1) (.int .i64 u2) (.string u3) (.bool u4) (.int .i64 u5)
      clear e0 e1 e2 e3 e4 e5 f0 f1 f2 f3 f4 f5 lX
      generalize put6 w4 w.heap.size (.int .i64 u0) (.int .i64 u1) (.int .i64 u2) (.string u3) (.bool u4) (.int .i64 u5) = W2 at *
      have d0 := bX2.out.cell 0
      have d1 := bX2.out.cell 1
      have d2 := bX2.out.cell 2
      have d3 := bX2.out.cell 3
      have d4 := bX2.out.cell 4
      have d5 := bX2.out.cell 5
      simp only [List.getElem?_toArray, List.getElem?_cons_zero, List.getElem?_cons_succ] at d0 d1 d2 d3 d4 d5
      exact bodyPost_ret (v := .agg #[.int .i64 u0, .int .i64 u1, .int .i64 u2, .string u3, .bool u4, .int .i64 u5]) (by simp [results, Tryz.f80, go_sem, d0, d1, d2, d3, d4, d5]) rfl ⟨rfl, HB2⟩
end Go.Proofs.YtdmbppgogdkpdaaGreatDoor
namespace Go.Proofs.YtdmbppgogdkpdaaGreatDoor
open Go.RowKit
set_option maxRecDepth 100000 in
set_option maxHeartbeats 4000000 in
theorem buildBoth_c (R C : Nat) (ba bb bf : Nat) (m : List Val) (w : World) (hR : 1 ≤ R) (hC : 1 ≤ C) (hm : m.length = R * C) (h4 : R * C ≤ 4096)
    (hE : ∀ W, Below w.heap.size w W → ∀ i j : Nat, i < R → j < C → ∀ h : i * C + j < m.length, Calls Tryz.prog 80 (#[.int .i64 i, .int .i64 j] ++ #[.pointer (some ⟨ba, 0, none⟩), .pointer (some ⟨bb, 0, none⟩), .pointer (some ⟨bf, 0, none⟩)]) W (RetV W m[i * C + j])) :
    Calls Tryz.prog 79 #[.int .i64 R, .int .i64 C, .func (.func 80) #[] #[.pointer (some ⟨ba, 0, none⟩), .pointer (some ⟨bb, 0, none⟩), .pointer (some ⟨bf, 0, none⟩)]] w (RetA w R C m) := by
  obtain ⟨i0, hi, hz0, hz1, hz2⟩ := info_parts Tryz.infoV
  have HE := Lib.hid hE
  have HM := Lib.hid hm
  obtain ⟨q, hq⟩ : ∃ q, R * C = q := ⟨_, rfl⟩
  have hq4 : q ≤ 4096 := by omega
  have HQ := Lib.hid hq
  have HRC := Lib.hid (show R ≤ 4096 ∧ C ≤ 4096 from ⟨Nat.le_trans (Nat.le_mul_of_pos_right R hC) h4, Nat.le_trans (Nat.le_mul_of_pos_left C hR) h4⟩)
  have wq : IntKind.i64.wrap ((R : Int) * (C : Int)) = (q : Int) := by
    rw [show (R : Int) * (C : Int) = (q : Int) by rw [← hq]; simp]
    exact IntWalk.i64_in _ (by omega)
  clear hE hm h4 hq
  have HB := Lib.hid ((Below.refl _ w).alloc (Nat.le_refl _) (.cells #[.int .i64 0, .int .i64 0, .slice none 0 0] 28))
  have BS := Lib.hid (Blk.new w 28 #[.int .i64 0, .int .i64 0, .slice none 0 0])
  go_enter Tryz.func79, Tryz.ntmps79
  go_wp2_with fail
  generalize w.alloc (.cells #[.int .i64 0, .int .i64 0, .slice none 0 0] 28) = V at *
  obtain ⟨w2, hrun, hr2, hg2⟩ := run_make_own (P := Tryz.prog) V w.heap.size 26 41 i0 _ 6 Tryz.underlying26 hi hz0 hz1 .i64 .i64 q (by rw [hz2]; omega) (by simp only [maxLen]; omega) HB.out.size
  rw [hrun]
  have HB2 := Lib.hid (below_grew HB.out hg2 (fun g hg => by cases hg))
  have BS2 := Lib.hid (BS.out.kept (hg2.block _ BS.out.lt (fun h => by cases h)))
  go_wp2_with fail
  have bl : Below w2.heap.size w2 (w2.alloc (.cells #[.int .i64 R, .int .i64 C, .slice (some ⟨V.heap.size, 0, none⟩) 0 q] 28)) := (Below.refl _ _).alloc (Nat.le_refl _) _
  have HI := Lib.hid (show BInv w R C w2.heap.size m 0 (w2.alloc (.cells #[.int .i64 R, .int .i64 C, .slice (some ⟨V.heap.size, 0, none⟩) 0 q] 28)) from
    ⟨HB2.out.trans (bl.mono HB2.out.size), BS2.out.alloc _, _, _, Blk.new w2 28 #[.int .i64 R, .int .i64 C, .slice (some ⟨V.heap.size, 0, none⟩) 0 q], ownsRow_kept hr2 (fun g _ hg => bl.block g hg)⟩)
  have HX := Lib.hid BS2.out.lt
  clear HB2 BS2 HB BS hr2 hg2 hrun bl
  generalize w2.alloc (.cells #[.int .i64 R, .int .i64 C, .slice (some ⟨V.heap.size, 0, none⟩) 0 q] 28) = W0 at *
  generalize w2.heap.size = X at *
  clear wq
  go_loopw [18] (fun i wr => ∃ a : Nat, a ≤ R ∧ i = .int .i64 a ∧ Hid (BInv w R C X m (a * C) wr)) (fun i _ => R - (intOf i).toNat)
  case atStart => exact ⟨0, Nat.zero_le _, rfl, by rw [Nat.zero_mul]; exact HI⟩
  case round =>
    obtain ⟨a, ha, rfl, hI⟩ := hrel
    by_cases hlt : a < R
    · have hax : (a : Int) < (R : Int) := by omega
      have wa : IntKind.i64.wrap ((a : Int) + 1) = (a : Int) + 1 := IntWalk.i64_in _ (by have := HRC.out; omega)
      go_wp2_with fail
      go_loopw [22] (fun i wr => ∃ j : Nat, j ≤ C ∧ i = .int .i64 j ∧ Hid (BInv w R C X m (a * C + j) wr)) (fun i _ => C - (intOf i).toNat)
      case atStart => exact ⟨0, Nat.zero_le _, rfl, by rw [Nat.add_zero]; exact hI⟩
      case round =>
        obtain ⟨j, hj, rfl, hI2⟩ := hrel
        by_cases hjt : j < C
        · have hjx : (j : Int) < (C : Int) := by omega
          have wj : IntKind.i64.wrap ((j : Int) + 1) = (j : Int) + 1 := IntWalk.i64_in _ (by have := HRC.out; omega)
          go_wp2_with fail
          obtain ⟨HB3, BS3, A, c, BX3, hr3⟩ := hI2.out
          obtain ⟨k, hk⟩ : ∃ k, a * C + j = k := ⟨_, rfl⟩
          have hkl : a * C + j < m.length := by
            rw [HM.out]
            have : (a + 1) * C ≤ R * C := Nat.mul_le_mul_right C hlt
            rw [Nat.succ_mul] at this
            omega
          have HE1 := Lib.hid (fun W hW => HE.out W hW a j hlt hjt hkl)
          have hk4 : k < 4096 := by have := HM.out; have := HQ.out; omega
          simp only [hk] at HE1 hkl hr3 BX3 hI2
          have HT := Lib.hid (show m.take (k + 1) = m.take k ++ [m[k]] from by rw [List.take_succ_eq_append_getElem hkl])
          generalize m[k] = z at *
          obtain ⟨zk, zm, ze, zt, zb, zf⟩ := z
          have HE2 := Lib.hid (fun W hW => show Calls Tryz.prog 80 (#[.int .i64 a, .int .i64 j] ++ #[.pointer (some ⟨ba, 0, none⟩), .pointer (some ⟨bb, 0, none⟩), .pointer (some ⟨bf, 0, none⟩)]) W (fun x w' => x = .returned (.agg #[.int .i64 zk, .int .i64 zm, .int .i64 ze, .string zt, .bool zb, .int .i64 zf]) ∧ Below W.heap.size W w') from HE1.out W hW)
          have hB3 := Lib.hid HB3
          have bS3 := Lib.hid BS3
          have bX3 := Lib.hid BX3
          have hR3 := Lib.hid hr3
          clear HE1 hI2 HB3 BS3 BX3 hr3 hkl
          have HC : AllCells wr.drew [(⟨X, 2, none⟩, .slice A k c)] := ⟨by
            have := (bX3.out.kept (w' := wr.drew) rfl).cell 2
            simpa using this, trivial⟩
          refine region_picked _ [0, 1, 2, 3, 4] [0, 1, 2, 3, 4, 5, 6, 7, 8] 5 (by kernel_rfl) (by kernel_rfl) (by kernel_rfl) (by kernel_rfl) (by kernel_rfl) (by kernel_rfl) (fun _ _ _ _ _ h => h) HC ?_
          intro hne hu
          simp only [AllCells] at hu
          simp only [pick, List.take_succ_cons, List.take_zero, List.drop_succ_cons, List.drop_zero, List.cons_append, List.nil_append]
          repeat (go_big_quiet_step (fail))
          refine wpQuiet_nil ?_
          clear hne hu
          refine anyN_oneL 5 (by kernel_rfl) ?_
          simp only [List.take_succ_cons, List.take_zero, List.drop_succ_cons, List.drop_zero]
          go_wp2_with fail
          refine (HE2.out _ hB3.out.drew).mono ?_
          rintro y w1 ⟨rfl, B1⟩
          have hB4 := Lib.hid (hB3.out.drew.trans (B1.mono hB3.out.size))
          have hS4 := Lib.hid (bS3.out.kept (show w1.heap[w.heap.size]? = wr.heap[w.heap.size]? from B1.block _ bS3.out.lt))
          have hX4 := Lib.hid (bX3.out.kept (show w1.heap[X]? = wr.heap[X]? from B1.block _ bX3.out.lt))
          have hR4 := Lib.hid (ownsRow_kept hR3.out (w' := w1) (fun g _ hg => B1.block g hg))
          clear B1 hB3 bS3 bX3 hR3 HC
          have HC4 : AllCells w1 [(⟨X, 2, none⟩, .slice A k c)] := ⟨by simpa using hX4.out.cell 2, trivial⟩
          go_wp2_with fail
          refine And.intro (fun _ => HC4) ?_
          refine anyN_oneL 6 (by kernel_rfl) ?_
          simp only [List.take_succ_cons, List.take_zero, List.drop_succ_cons, List.drop_zero]
          have HSz := Lib.hid hB4.out.size
          go_wp2_with fail
          have bl : Below w1.heap.size w1 (w1.alloc (.cells #[.int .i64 zk, .int .i64 zm, .int .i64 ze, .string zt, .bool zb, .int .i64 zf] 41)) := (Below.refl _ w1).alloc (Nat.le_refl _) _
          have hB5 := Lib.hid (hB4.out.trans (bl.mono hB4.out.size))
          have hS5 := Lib.hid (hS4.out.kept (bl.block _ hS4.out.lt))
          have hX5 := Lib.hid (hX4.out.kept (bl.block _ hX4.out.lt))
          have hR5 := Lib.hid (ownsRow_kept hR4.out (w' := w1.alloc (.cells #[.int .i64 zk, .int .i64 zm, .int .i64 ze, .string zt, .bool zb, .int .i64 zf] 41)) (fun g _ hg => bl.block g hg))
          have HSrc : Hid (∀ ad, some (⟨w1.heap.size, 0, none⟩ : Addr) = some ad → ∀ j u, [Value.int .i64 zk, .int .i64 zm, .int .i64 ze, .string zt, .bool zb, .int .i64 zf][j]? = some u → (w1.alloc (.cells #[.int .i64 zk, .int .i64 zm, .int .i64 ze, .string zt, .bool zb, .int .i64 zf] 41)).cell? (ad.add j) = some u) := fun ad hE j u hj => by
            cases hE
            have := (Blk.new w1 41 #[.int .i64 zk, .int .i64 zm, .int .i64 ze, .string zt, .bool zb, .int .i64 zf]).cell j
            rw [add_at, Nat.zero_add]
            refine this.trans ?_
            simpa using hj
          clear bl HC4 hB4 hS4 hX4 hR4
          have HC5 : AllCells (w1.alloc (.cells #[.int .i64 zk, .int .i64 zm, .int .i64 ze, .string zt, .bool zb, .int .i64 zf] 41)) [(⟨X, 2, none⟩, .slice A k c)] := ⟨by simpa using hX5.out.cell 2, trivial⟩
          refine And.intro (fun _ => HC5) ?_
          refine anyN_oneL 7 (by kernel_rfl) ?_
          simp only [List.take_succ_cons, List.take_zero, List.drop_succ_cons, List.drop_zero]
          have HBase := Lib.hid (ownsRow_base hR5.out)
          have HNe := Lib.hid (ownsRow_ne hR5.out hX5.out (by decide))
          have HNs := Lib.hid (ownsRow_ne hR5.out hS5.out (by decide))
          have HS5 := Lib.hid hB5.out.size
          go_wp2_with (at_builtin; refine wpList_append_src _ rfl _ _ _ rfl w.heap.size 41 i0 _ 6 56 Tryz.underlying26 hi hz0 hz1 hz2 rfl (by omega) _ k ((m.take k).flatMap Val.cs) rfl hR5.out (some ⟨w1.heap.size, 0, none⟩) 1 1 [.int .i64 zk, .int .i64 zm, .int .i64 ze, .string zt, .bool zb, .int .i64 zf] rfl (fun e => by cases e) rfl HSrc.out (by simp [Value.oneCell']) (by simp only [maxLen]; omega) (by omega) HS5.out ?_; intro v2 w3 hr6 hg6 hat6)
          have hR6 := Lib.hid (show w3.ownsRow w.heap.size 41 6 v2 (k + 1) ((m.take (k + 1)).flatMap Val.cs) by rw [HT.out, List.flatMap_append]; exact hr6)
          have hB6 := Lib.hid (below_grew hB5.out hg6 (fun g hg => HBase.out g hg))
          have hX6 := Lib.hid (hX5.out.kept (hg6.block _ hX5.out.lt (fun e => HNe.out _ e.symm rfl)))
          have hS6 := Lib.hid (hS5.out.kept (hg6.block _ hS5.out.lt (fun e => HNs.out _ e.symm rfl)))
          clear hr6 hg6 hat6 HC5 hB5 hX5 hR5 hS5
          have HC6 : AllCells w3 [(⟨X, 2, none⟩, .slice A k c)] := ⟨by simpa using hX6.out.cell 2, trivial⟩
          obtain ⟨A2, c2, rfl, hAc⟩ := ownsRow_shape hR6.out
          clear hAc
          refine And.intro (fun _ => HC6) ?_
          refine anyN_oneL 8 (by kernel_rfl) ?_
          simp only [List.take_succ_cons, List.take_zero, List.drop_succ_cons, List.drop_zero]
          go_wp2_with fail
          refine And.intro (fun _ => HC6) ?_
          refine anyN_oneL 9 (by kernel_rfl) ?_
          simp only [List.take_succ_cons, List.take_zero, List.drop_succ_cons, List.drop_zero]
          have x0 := hX6.out.cell 0
          have x1 := hX6.out.cell 1
          have x2 := hX6.out.cell 2
          simp only [List.getElem?_toArray, List.getElem?_cons_zero, List.getElem?_cons_succ] at x0 x1 x2
          have f0 := hX6.out.frozen 0
          have f1 := hX6.out.frozen 1
          have f2 := hX6.out.frozen 2
          have lX := hX6.out.lt
          go_wp2_with fail
          refine And.intro (fun h => by cases h) ?_
          have hX7 := Lib.hid (show Blk (w3.setCell ⟨X, 2, none⟩ (.slice A2 (k + 1) c2)) X 28 #[.int .i64 R, .int .i64 C, .slice A2 (k + 1) c2] by simpa using hX6.out.store 2 (.slice A2 (k + 1) c2))
          have hS7 := Lib.hid (hS6.out.far (p := ⟨X, 2, none⟩) (show w.heap.size ≠ X from fun e => by have := HX.out; omega) (.slice A2 (k + 1) c2))
          have hB7 := Lib.hid (hB6.out.setCell (p := ⟨X, 2, none⟩) (Nat.le_of_lt HX.out) (.slice A2 (k + 1) c2))
          have hR7 := Lib.hid (ownsRow_kept hR6.out (w' := w3.setCell ⟨X, 2, none⟩ (.slice A2 (k + 1) c2)) (fun g hg _ => Below.heap_setCell _ _ _ _ (ownsRow_ne hR6.out hX6.out (by decide) g hg)))
          clear x0 x1 x2 f0 f1 f2 lX HC6
          refine ⟨by kernel_rfl, ?_⟩
          go_wp2_with fail
          exact ⟨⟨j + 1, hjt, by go_num, Lib.hid (show BInv w R C X m (a * C + (j + 1)) _ by rw [← Nat.add_assoc, hk]; exact ⟨hB7.out, hS7.out, _, _, hX7.out, hR7.out⟩)⟩, by simp [intOf]; omega⟩
        · obtain rfl : j = C := by omega
          have hjj : decide ((j : Int) < (j : Int)) = false := decide_eq_false (by omega)
          go_wp2_with fail
          exact ⟨⟨a + 1, hlt, by go_num, by rw [Nat.succ_mul]; exact hI2⟩, by simp [intOf]; omega⟩
    · obtain rfl : a = R := by omega
      have hjj : decide ((a : Int) < (a : Int)) = false := decide_eq_false (by omega)
      obtain ⟨HB3, BS3, A, c, BX3, hr3⟩ := hI.out
      have hB3 := Lib.hid HB3
      have hS3 := Lib.hid BS3
      have hX3 := Lib.hid BX3
      have HF := Lib.hid (manyR_of_row (f := Val.cs) (k := 6) (fun _ => rfl) (by omega) hr3)
      have HBase := Lib.hid (ownsRow_base hr3)
      have HNs := Lib.hid (ownsRow_ne hr3 BS3 (by decide))
      have HFr := Lib.hid (show ∀ z, A = some z → w.heap.size ≤ z.block ∧ z.block ≠ w.heap.size from fun z hz => by
        subst hz
        rcases hr3.2 with ⟨hv, _⟩ | ⟨g, cap, cur, hv, _⟩
        · cases hv
        · cases hv
          exact ⟨HBase.out g rfl, HNs.out g rfl⟩)
      clear HB3 BS3 BX3 hr3
      have x0 := hX3.out.cell 0
      have x1 := hX3.out.cell 1
      have x2 := hX3.out.cell 2
      simp only [List.getElem?_toArray, List.getElem?_cons_zero, List.getElem?_cons_succ] at x0 x1 x2
      have e0 := hS3.out.cell 0
      have e1 := hS3.out.cell 1
      have e2 := hS3.out.cell 2
      simp only [List.getElem?_toArray, List.getElem?_cons_zero, List.getElem?_cons_succ] at e0 e1 e2
      have f0 := hS3.out.frozen 0
      have f1 := hS3.out.frozen 1
      have f2 := hS3.out.frozen 2
      have lX := hS3.out.lt
      go_wp2_with fail
      change bodyPost _ _ _ _ _ (put3 wr w.heap.size (.int .i64 a) (.int .i64 C) (.slice A (a * C) c))
      have HE := Lib.hid (show m.take (a * C) = m from List.take_of_length_le (by rw [HM.out]; exact Nat.le_refl _))
      have HA := Lib.hid (manyR_put3 (X := w.heap.size) (show ManyR Val.cs 6 wr A m by have := HF.out.2; rwa [HE.out] at this) (fun z hz => (HFr.out z hz).2) (.int .i64 a) (.int .i64 C) (.slice A (a * C) c))
      have hX4 := Lib.hid (blk_put3 hS3.out (.int .i64 a) (.int .i64 C) (.slice A (a * C) c))
      have hB4 := below_put3 hB3.out (Nat.le_refl _) (.int .i64 a) (.int .i64 C) (.slice A (a * C) c)
      clear x0 x1 x2 e0 e1 e2 f0 f1 f2 lX
      generalize put3 wr w.heap.size (.int .i64 a) (.int .i64 C) (.slice A (a * C) c) = W2 at *
      have d0 := hX4.out.cell 0
      have d1 := hX4.out.cell 1
      have d2 := hX4.out.cell 2
      simp only [List.getElem?_toArray, List.getElem?_cons_zero, List.getElem?_cons_succ] at d0 d1 d2
      exact bodyPost_ret (v := .agg #[.int .i64 a, .int .i64 C, .slice A (a * C) c]) (by simp [results, Tryz.f79, go_sem, d0, d1, d2]) rfl ⟨_, _, _, rfl, HM.out, HA.out, fun z hz => (HFr.out z hz).1, hB4⟩
end Go.Proofs.YtdmbppgogdkpdaaGreatDoor
namespace Go.Proofs.YtdmbppgogdkpdaaGreatDoor
open Go.RowKit
theorem fits_bad5 : FitsV (badV 5) := by unfold FitsV; rw [badV_in (by omega)]; simp
set_option maxRecDepth 100000 in
set_option maxHeartbeats 4000000 in
theorem tooGreat_c (w : World) : Calls Tryz.prog 78 #[] w (RetA w 1 1 [badV 5]) := by
  have HB := Lib.hid ((Below.refl _ w).alloc (Nat.le_refl _) (.cells #[.int .i64 0, .int .i64 0, .slice none 0 0] 28))
  have BY := Lib.hid (Blk.new w 28 #[.int .i64 0, .int .i64 0, .slice none 0 0])
  have HO := Lib.hid (fun W => show Calls Tryz.prog 127 #[.agg #[.int .i64 4, .int .i64 0, .int .i64 0, .string ⟨#[]⟩, .bool false, .int .i64 5]] W (RetA W 1 1 [badV 5]) from one_c (badV 5) (rightV_bad 5) fits_bad5 W)
  go_enter Tryz.func78, Tryz.ntmps78
  go_wp2_with fail
  generalize w.alloc (.cells #[.int .i64 0, .int .i64 0, .slice none 0 0] 28) = V at *
  refine (vbadn_c 5 (by omega) _).mono ?_
  rintro y w1 ⟨rfl, B1⟩
  have BY1 := Lib.hid (BY.out.kept (B1.block _ BY.out.lt))
  have HB1 := Lib.hid (HB.out.trans (B1.mono HB.out.size))
  clear B1 HB BY
  go_wp2_with fail
  refine (HO.out _).mono ?_
  rintro y w2 ⟨A, n, ca, rfl, hn, hA, hF, B1⟩
  have BY2 := Lib.hid (BY1.out.kept (B1.block _ BY1.out.lt))
  have HB2 := Lib.hid (HB1.out.trans (B1.mono HB1.out.size))
  have HN := Lib.hid hn
  have HF := Lib.hid (show ∀ a, A = some a → w.heap.size < a.block from fun a e => Nat.lt_of_lt_of_le BY1.out.lt (hF a e))
  have HA := Lib.hid (manyR_put3 hA (X := w.heap.size) (fun a e => by have := HF.out a e; omega) (.int .i64 1) (.int .i64 1) (.slice A n ca))
  clear B1 HB1 BY1 hn hA hF
  have e0 := BY2.out.cell 0
  have e1 := BY2.out.cell 1
  have e2 := BY2.out.cell 2
  simp only [List.getElem?_toArray, List.getElem?_cons_zero, List.getElem?_cons_succ] at e0 e1 e2
  have f0 := BY2.out.frozen 0
  have f1 := BY2.out.frozen 1
  have f2 := BY2.out.frozen 2
  have lX := BY2.out.lt
  go_wp2_with fail
  change bodyPost _ _ _ _ _ (put3 w2 w.heap.size (.int .i64 1) (.int .i64 1) (.slice A n ca))
  have bX2 := Lib.hid (blk_put3 BY2.out (.int .i64 1) (.int .i64 1) (.slice A n ca))
  have HB3 := below_put3 HB2.out (Nat.le_refl _) (.int .i64 1) (.int .i64 1) (.slice A n ca)
  generalize put3 w2 w.heap.size (.int .i64 1) (.int .i64 1) (.slice A n ca) = W2 at *
  have d0 := bX2.out.cell 0
  have d1 := bX2.out.cell 1
  have d2 := bX2.out.cell 2
  simp only [List.getElem?_toArray, List.getElem?_cons_zero, List.getElem?_cons_succ] at d0 d1 d2
  exact bodyPost_ret (v := .agg #[.int .i64 1, .int .i64 1, .slice A n ca]) (by simp [results, Tryz.f78, go_sem, d0, d1, d2]) rfl ⟨_, _, _, rfl, HN.out, HA.out, fun a e => Nat.le_of_lt (HF.out a e), HB3⟩
def bothL (M N : Nat) (g : Val → Val → Val) (R C : Nat) (l : List Val) (R' C' : Nat) (l' : List Val) : List Val := (List.range (M * N)).map fun k => bothV g (sprd R C l (k / N) (k % N)) (sprd R' C' l' (k / N) (k % N))
theorem bothL_get {M N : Nat} {g : Val → Val → Val} {R C : Nat} {l : List Val} {R' C' : Nat} {l' : List Val} (i j : Nat) (hj : j < N) (h : i * N + j < (bothL M N g R C l R' C' l').length) : (bothL M N g R C l R' C' l')[i * N + j] = bothV g (sprd R C l i j) (sprd R' C' l' i j) := by
  have h1 : (i * N + j) / N = i := by rw [Nat.mul_comm, Nat.mul_add_div (by omega), Nat.div_eq_of_lt hj, Nat.add_zero]
  have h2 : (i * N + j) % N = j := by rw [Nat.mul_comm, Nat.mul_add_mod, Nat.mod_eq_of_lt hj]
  simp only [bothL, List.getElem_map, List.getElem_range, h1, h2]
structure FnIs (w : World) (FN : FuncId) (CAPS : Array Value) (g : Val → Val → Val) (l l' : List Val) : Prop where
  all : ∀ x ∈ l, ∀ y ∈ l', (∀ W, Below w.heap.size w W → Calls Tryz.prog FN (#[.agg x.cs.toArray, .agg y.cs.toArray] ++ CAPS) W (RetV W (g x y))) ∧ RightV (g x y) ∧ FitsV (g x y)
def BothP (w : World) (g : Val → Val → Val) (R C : Nat) (l : List Val) (R' C' : Nat) (l' : List Val) (e : Ending) (w' : World) : Prop :=
  if fitsB (max R R') (max C C') then RetA w (max R R' : Nat) (max C C' : Nat) (bothL (max R R') (max C C') g R C l R' C' l') e w' else RetA w 1 1 [badV 5] e w'
set_option maxRecDepth 100000 in
set_option maxHeartbeats 4000000 in
theorem bothReck_c (fb : Nat) (R C R' C' : Nat) (A A' : Option Addr) (n ca n' ca' : Nat) (l l' : List Val) (w : World) (h : ArrR w R C A n l) (h' : ArrR w R' C' A' n' l') (g : Val → Val → Val) (hg : FnIs w 102 #[.pointer (some ⟨fb, 0, none⟩)] g l l') :
    Calls Tryz.prog 39 #[.agg #[.int .i64 R, .int .i64 C, .slice A n ca], .agg #[.int .i64 R', .int .i64 C', .slice A' n' ca'], .func (.func 102) #[] #[.pointer (some ⟨fb, 0, none⟩)]] w (BothP w g R C l R' C' l') := by
  have HA := Lib.hid h
  have HA' := Lib.hid h'
  have HG := Lib.hid hg.all
  have m1 : 1 ≤ max R R' := by have := h.right.r1; omega
  have m2 : 1 ≤ max C C' := by have := h.right.c1; omega
  have B0 := Lib.hid (Bxs.start w [(28, #[.int .i64 R, .int .i64 C, .slice A n ca]), (28, #[.int .i64 R', .int .i64 C', .slice A' n' ca']), (63, #[.func (.func 102) #[] #[.pointer (some ⟨fb, 0, none⟩)]]), (28, #[.int .i64 0, .int .i64 0, .slice none 0 0])])
  simp only [allocAll] at B0
  have HCO := Lib.hid (fun W (hW : Below w.heap.size w W) => common_c R C R' C' A A' n ca n' ca' l l' W (h.next hW) (h'.next hW))
  unfold BothP
  have HM := Lib.hid (And.intro m1 m2)
  clear m1 m2
  have HB1 := Lib.hid (fun (M N : Nat) (W : World) (ba bb bf : Nat) => buildBoth_c M N ba bb bf (bothL M N g R C l R' C' l') W)
  have H1 := Lib.hid (fun row col ba bb bf W (hW : Below w.heap.size w W) (k1 : Blk W ba 28 #[.int .i64 R, .int .i64 C, .slice A n ca]) (k2 : Blk W bb 28 #[.int .i64 R', .int .i64 C', .slice A' n' ca']) (k3 : W.cell? ⟨bf, 0, none⟩ = some (.func (.func 102) #[] #[.pointer (some ⟨fb, 0, none⟩)])) => both1Reck_c fb row col R C R' C' A A' n ca n' ca' ba bb bf l l' W k1 k2 k3 (h.next hW) (h'.next hW) g (fun x hx y hy => ⟨fun V hV => (hg.all x hx y hy).1 V (hW.trans (hV.mono hW.size)), (hg.all x hx y hy).2⟩))
  clear h h' hg
  generalize max R R' = M at *
  generalize max C C' = N at *
  cases hfit : fitsB M N with
  | false =>
    simp only [Bool.false_eq_true, if_false]
    clear H1 HB1 HM HG
    have a0 := ((B0.out.box 0 _ _ rfl)).cell 0
    have a1 := ((B0.out.box 0 _ _ rfl)).cell 1
    have a2 := ((B0.out.box 0 _ _ rfl)).cell 2
    simp only [List.getElem?_toArray, List.getElem?_cons_zero, List.getElem?_cons_succ] at a0 a1 a2
    go_enter Tryz.func39, Tryz.ntmps39
    go_wp2_with fail
    refine (shrightA_c (HA.out.next B0.out.below)).mono ?_
    rintro z w1 ⟨rfl, hb⟩
    have B1 := Lib.hid (B0.out.next hb)
    clear hb B0
    have BX1 := Lib.hid (show Blk w1 (w.heap.size + 1) 28 #[.int .i64 R', .int .i64 C', .slice A' n' ca'] from B1.out.box 1 _ _ rfl)
    have b0 := (BX1.out).cell 0
    have b1 := (BX1.out).cell 1
    have b2 := (BX1.out).cell 2
    simp only [List.getElem?_toArray, List.getElem?_cons_zero, List.getElem?_cons_succ] at b0 b1 b2
    go_wp2_with fail
    refine (shrightA_c (HA'.out.next B1.out.below)).mono ?_
    rintro z w2 ⟨rfl, hb⟩
    have B2 := Lib.hid (B1.out.next hb)
    clear hb B1 BX1 b0 b1 b2
    have BX1 := Lib.hid (show Blk w2 (w.heap.size + 1) 28 #[.int .i64 R', .int .i64 C', .slice A' n' ca'] from B2.out.box 1 _ _ rfl)
    have BX0 := Lib.hid (show Blk w2 w.heap.size 28 #[.int .i64 R, .int .i64 C, .slice A n ca] from B2.out.box 0 _ _ rfl)
    have b0 := (BX1.out).cell 0
    have b1 := (BX1.out).cell 1
    have b2 := (BX1.out).cell 2
    simp only [List.getElem?_toArray, List.getElem?_cons_zero, List.getElem?_cons_succ] at b0 b1 b2
    have a0 := (BX0.out).cell 0
    have a1 := (BX0.out).cell 1
    have a2 := (BX0.out).cell 2
    simp only [List.getElem?_toArray, List.getElem?_cons_zero, List.getElem?_cons_succ] at a0 a1 a2
    go_wp2_with fail
    refine (HCO.out _ B2.out.below).mono ?_
    rintro z w3 ⟨rfl, hb⟩
    have B3 := Lib.hid (B2.out.next hb)
    clear hb B2 BX1 BX0 a0 a1 a2 b0 b1 b2
    simp only [comV, hfit, Bool.false_eq_true, if_false]
    go_wp2_with fail
    refine (tooGreat_c _).mono ?_
    rintro y w9 ⟨A9, n9, ca9, rfl, hn9, hA9, hF9, B9⟩
    have B4 := Lib.hid (B3.out.next B9)
    have BXt := Lib.hid (show Blk w9 (w.heap.size + 1 + 1 + 1) 28 #[.int .i64 0, .int .i64 0, .slice none 0 0] from B4.out.box 3 _ _ rfl)
    have HF9 := Lib.hid (show ∀ a, A9 = some a → w.heap.size + 1 + 1 + 1 < a.block from fun a e => Nat.lt_of_lt_of_le (show w.heap.size + 1 + 1 + 1 < w3.heap.size from (B3.out.box 3 _ _ rfl).lt) (hF9 a e))
    have HBt := Lib.hid B4.out.below
    have HN9 := Lib.hid hn9
    have HA9 := Lib.hid (manyR_put3 hA9 (X := w.heap.size + 1 + 1 + 1) (fun a e => by have := HF9.out a e; omega) (.int .i64 1) (.int .i64 1) (.slice A9 n9 ca9))
    clear B9 hn9 hA9 hF9 B3 B4
    have e0 := BXt.out.cell 0
    have e1 := BXt.out.cell 1
    have e2 := BXt.out.cell 2
    simp only [List.getElem?_toArray, List.getElem?_cons_zero, List.getElem?_cons_succ] at e0 e1 e2
    have f0 := BXt.out.frozen 0
    have f1 := BXt.out.frozen 1
    have f2 := BXt.out.frozen 2
    have lX := BXt.out.lt
    go_wp2_with fail
    change bodyPost _ _ _ _ _ (put3 w9 (w.heap.size + 1 + 1 + 1) (.int .i64 1) (.int .i64 1) (.slice A9 n9 ca9))
    have bXt := Lib.hid (blk_put3 BXt.out (.int .i64 1) (.int .i64 1) (.slice A9 n9 ca9))
    have HBu := below_put3 HBt.out (Nat.le_trans (Nat.le_succ _) (Nat.le_trans (Nat.le_succ _) (Nat.le_succ _))) (.int .i64 1) (.int .i64 1) (.slice A9 n9 ca9)
    generalize put3 w9 (w.heap.size + 1 + 1 + 1) (.int .i64 1) (.int .i64 1) (.slice A9 n9 ca9) = W2 at *
    have d0 := bXt.out.cell 0
    have d1 := bXt.out.cell 1
    have d2 := bXt.out.cell 2
    simp only [List.getElem?_toArray, List.getElem?_cons_zero, List.getElem?_cons_succ] at d0 d1 d2
    exact bodyPost_ret (v := .agg #[.int .i64 1, .int .i64 1, .slice A9 n9 ca9]) (by simp [results, Tryz.f39, go_sem, d0, d1, d2]) rfl ⟨_, _, _, rfl, HN9.out, HA9.out, fun a e => by have := HF9.out a e; omega, HBu⟩
  | true =>
    have hft := of_decide_eq_true hfit
    simp only [if_true]
    have HBD := Lib.hid (fun W (bW : Bxs w W [(28, #[.int .i64 R, .int .i64 C, .slice A n ca]), (28, #[.int .i64 R', .int .i64 C', .slice A' n' ca']), (63, #[.func (.func 102) #[] #[.pointer (some ⟨fb, 0, none⟩)]]), (28, #[.int .i64 0, .int .i64 0, .slice none 0 0])]) => HB1.out M N W w.heap.size (w.heap.size + 1) (w.heap.size + 1 + 1) HM.out.1 HM.out.2 (by simp [bothL]) hft.2.2.2 (fun V hV i j hi hj hij => by
      have bV := bW.next hV
      rw [bothL_get i j hj hij]
      exact H1.out i j _ _ _ V bV.below (bV.box 0 _ _ rfl) (bV.box 1 _ _ rfl) ((bV.box 2 _ _ rfl).cell 0)))
    clear H1 HB1 HM HG
    have a0 := ((B0.out.box 0 _ _ rfl)).cell 0
    have a1 := ((B0.out.box 0 _ _ rfl)).cell 1
    have a2 := ((B0.out.box 0 _ _ rfl)).cell 2
    simp only [List.getElem?_toArray, List.getElem?_cons_zero, List.getElem?_cons_succ] at a0 a1 a2
    go_enter Tryz.func39, Tryz.ntmps39
    go_wp2_with fail
    refine (shrightA_c (HA.out.next B0.out.below)).mono ?_
    rintro z w1 ⟨rfl, hb⟩
    have B1 := Lib.hid (B0.out.next hb)
    clear hb B0
    have BX1 := Lib.hid (show Blk w1 (w.heap.size + 1) 28 #[.int .i64 R', .int .i64 C', .slice A' n' ca'] from B1.out.box 1 _ _ rfl)
    have b0 := (BX1.out).cell 0
    have b1 := (BX1.out).cell 1
    have b2 := (BX1.out).cell 2
    simp only [List.getElem?_toArray, List.getElem?_cons_zero, List.getElem?_cons_succ] at b0 b1 b2
    go_wp2_with fail
    refine (shrightA_c (HA'.out.next B1.out.below)).mono ?_
    rintro z w2 ⟨rfl, hb⟩
    have B2 := Lib.hid (B1.out.next hb)
    clear hb B1 BX1 b0 b1 b2
    have BX1 := Lib.hid (show Blk w2 (w.heap.size + 1) 28 #[.int .i64 R', .int .i64 C', .slice A' n' ca'] from B2.out.box 1 _ _ rfl)
    have BX0 := Lib.hid (show Blk w2 w.heap.size 28 #[.int .i64 R, .int .i64 C, .slice A n ca] from B2.out.box 0 _ _ rfl)
    have b0 := (BX1.out).cell 0
    have b1 := (BX1.out).cell 1
    have b2 := (BX1.out).cell 2
    simp only [List.getElem?_toArray, List.getElem?_cons_zero, List.getElem?_cons_succ] at b0 b1 b2
    have a0 := (BX0.out).cell 0
    have a1 := (BX0.out).cell 1
    have a2 := (BX0.out).cell 2
    simp only [List.getElem?_toArray, List.getElem?_cons_zero, List.getElem?_cons_succ] at a0 a1 a2
    go_wp2_with fail
    refine (HCO.out _ B2.out.below).mono ?_
    rintro z w3 ⟨rfl, hb⟩
    have B3 := Lib.hid (B2.out.next hb)
    clear hb B2 BX1 BX0 a0 a1 a2 b0 b1 b2
    simp only [comV, hfit, if_true]
    clear hft
    go_wp2_with fail
    refine (HBD.out _ B3.out).mono ?_
    rintro y w9 ⟨A9, n9, ca9, rfl, hn9, hA9, hF9, B9⟩
    have B4 := Lib.hid (B3.out.next B9)
    have BXt := Lib.hid (show Blk w9 (w.heap.size + 1 + 1 + 1) 28 #[.int .i64 0, .int .i64 0, .slice none 0 0] from B4.out.box 3 _ _ rfl)
    have HF9 := Lib.hid (show ∀ a, A9 = some a → w.heap.size + 1 + 1 + 1 < a.block from fun a e => Nat.lt_of_lt_of_le (show w.heap.size + 1 + 1 + 1 < w3.heap.size from (B3.out.box 3 _ _ rfl).lt) (hF9 a e))
    have HBt := Lib.hid B4.out.below
    have HN9 := Lib.hid hn9
    have HA9 := Lib.hid (manyR_put3 hA9 (X := w.heap.size + 1 + 1 + 1) (fun a e => by have := HF9.out a e; omega) (.int .i64 (M : Int)) (.int .i64 (N : Int)) (.slice A9 n9 ca9))
    clear B9 hn9 hA9 hF9 B3 B4
    have e0 := BXt.out.cell 0
    have e1 := BXt.out.cell 1
    have e2 := BXt.out.cell 2
    simp only [List.getElem?_toArray, List.getElem?_cons_zero, List.getElem?_cons_succ] at e0 e1 e2
    have f0 := BXt.out.frozen 0
    have f1 := BXt.out.frozen 1
    have f2 := BXt.out.frozen 2
    have lX := BXt.out.lt
    go_wp2_with fail
    change bodyPost _ _ _ _ _ (put3 w9 (w.heap.size + 1 + 1 + 1) (.int .i64 (M : Int)) (.int .i64 (N : Int)) (.slice A9 n9 ca9))
    have bXt := Lib.hid (blk_put3 BXt.out (.int .i64 (M : Int)) (.int .i64 (N : Int)) (.slice A9 n9 ca9))
    have HBu := below_put3 HBt.out (Nat.le_trans (Nat.le_succ _) (Nat.le_trans (Nat.le_succ _) (Nat.le_succ _))) (.int .i64 (M : Int)) (.int .i64 (N : Int)) (.slice A9 n9 ca9)
    generalize put3 w9 (w.heap.size + 1 + 1 + 1) (.int .i64 (M : Int)) (.int .i64 (N : Int)) (.slice A9 n9 ca9) = W2 at *
    have d0 := bXt.out.cell 0
    have d1 := bXt.out.cell 1
    have d2 := bXt.out.cell 2
    simp only [List.getElem?_toArray, List.getElem?_cons_zero, List.getElem?_cons_succ] at d0 d1 d2
    exact bodyPost_ret (v := .agg #[.int .i64 (M : Int), .int .i64 (N : Int), .slice A9 n9 ca9]) (by simp [results, Tryz.f39, go_sem, d0, d1, d2]) rfl ⟨_, _, _, rfl, HN9.out, HA9.out, fun a e => by have := HF9.out a e; omega, HBu⟩
end Go.Proofs.YtdmbppgogdkpdaaGreatDoor
