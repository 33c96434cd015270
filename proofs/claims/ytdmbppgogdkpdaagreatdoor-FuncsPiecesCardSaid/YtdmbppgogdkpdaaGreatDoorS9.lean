/-
  fmath.numbers: its contract. Condition: the row holds at most 4096 values; those that hold numbers may be.
  farray: COLUMNS, ROWS; fmath.fault: their contracts. Conditions: at most 4096 rows and columns, the table of powers of ten reads as laid.
  fmath.ofNumbers$1 (SUM), counted$1 (COUNT, COUNTA): their contracts. Conditions: the array may be, holds at most 4096 values; the table of powers of ten reads as laid.
  fmath.counted$1 (COUNT, COUNTA): its contract. Conditions: the array holds at least one and at most 4096 values; the table of powers of ten reads as laid.
-/
import Derived.Test.YtdmbppgogdkpdaaGreatDoorS5
set_option linter.unusedSectionVars false
namespace Go.Proofs.YtdmbppgogdkpdaaGreatDoor
open Go.RowKit
end Go.Proofs.YtdmbppgogdkpdaaGreatDoor
namespace Go.Proofs.YtdmbppgogdkpdaaGreatDoor
open Go.RowKit
set_option maxRecDepth 100000 in
set_option maxHeartbeats 4000000 in
theorem columns_c (bG : Nat) (r : Int) (c : Nat) (A : Option Addr) (n ca cG : Nat) (w : World) (hG : Blk w bG 28 #[.int .i64 r, .int .i64 c, .slice A n ca]) (hc : c ≤ 4096) (htab : PowT w) :
    Calls Tryz.prog 202 #[.slice (some ⟨bG, 0, none⟩) 1 cG] w (RetA w 1 1 [countV c]) := by
  have HB := Lib.hid ((Below.refl _ w).alloc (Nat.le_refl _) (.cells #[.int .i64 0, .int .i64 0, .slice none 0 0] 28))
  have BX := Lib.hid (Blk.new w 28 #[.int .i64 0, .int .i64 0, .slice none 0 0])
  have BG := Lib.hid (hG.alloc (.cells #[.int .i64 0, .int .i64 0, .slice none 0 0] 28))
  have HC0 := acount_c c (by omega) (w.alloc (.cells #[.int .i64 0, .int .i64 0, .slice none 0 0] 28)) (htab.next HB.out)
  have HO0 := fun W => one_c (countV c) (countV_right c) (countV_fits c) W
  generalize countV c = z at HC0 HO0 ⊢
  obtain ⟨zk, zm, ze, zt, zb, zf⟩ := z
  have HC := Lib.hid (show Calls Tryz.prog 203 #[.int .i64 c] (w.alloc (.cells #[.int .i64 0, .int .i64 0, .slice none 0 0] 28)) (fun x w' => x = .returned (.agg #[.int .i64 zk, .int .i64 zm, .int .i64 ze, .string zt, .bool zb, .int .i64 zf]) ∧ Below (w.alloc (.cells #[.int .i64 0, .int .i64 0, .slice none 0 0] 28)).heap.size _ w') from HC0)
  have HO := Lib.hid (fun W => show Calls Tryz.prog 127 #[.agg #[.int .i64 zk, .int .i64 zm, .int .i64 ze, .string zt, .bool zb, .int .i64 zf]] W (RetA W 1 1 [⟨zk, zm, ze, zt, zb, zf⟩]) from HO0 W)
  clear HC0 HO0 htab hG
  have g0 := BG.out.cell 0
  have g1 := BG.out.cell 1
  have g2 := BG.out.cell 2
  simp only [List.getElem?_toArray, List.getElem?_cons_zero, List.getElem?_cons_succ] at g0 g1 g2
  go_enter Tryz.func202, Tryz.ntmps202
  go_wp2_with fail
  refine HC.out.mono ?_
  rintro x w1 ⟨rfl, B1⟩
  have BX1 := Lib.hid (BX.out.kept (B1.block _ BX.out.lt))
  have HB1 := Lib.hid (HB.out.trans (B1.mono HB.out.size))
  clear B1 BX HB HC BG g0 g1 g2
  go_wp2_with fail
  refine (HO.out _).mono ?_
  rintro y w9 ⟨A9, n9, ca9, rfl, hn9, hA9, hF9, B9⟩
  have BX2 := Lib.hid (BX1.out.kept (B9.block _ BX1.out.lt))
  have HB2 := Lib.hid (HB1.out.trans (B9.mono HB1.out.size))
  have HN9 := Lib.hid hn9
  have HF9 := Lib.hid (show ∀ a, A9 = some a → w.heap.size < a.block from fun a e => Nat.lt_of_lt_of_le BX1.out.lt (hF9 a e))
  have HA9 := Lib.hid (manyR_put3 hA9 (X := w.heap.size) (fun a e => by have := HF9.out a e; omega) (.int .i64 1) (.int .i64 1) (.slice A9 n9 ca9))
  clear B9 hn9 hA9 hF9 BX1 HB1
  have e0 := BX2.out.cell 0
  have e1 := BX2.out.cell 1
  have e2 := BX2.out.cell 2
  simp only [List.getElem?_toArray, List.getElem?_cons_zero, List.getElem?_cons_succ] at e0 e1 e2
  have f0 := BX2.out.frozen 0
  have f1 := BX2.out.frozen 1
  have f2 := BX2.out.frozen 2
  have lX := BX2.out.lt
  go_wp2_with fail
  change bodyPost _ _ _ _ _ (put3 w9 w.heap.size (.int .i64 1) (.int .i64 1) (.slice A9 n9 ca9))
  have bX2 := Lib.hid (blk_put3 BX2.out (.int .i64 1) (.int .i64 1) (.slice A9 n9 ca9))
  have HB3 := below_put3 HB2.out (Nat.le_refl _) (.int .i64 1) (.int .i64 1) (.slice A9 n9 ca9)
  generalize put3 w9 w.heap.size (.int .i64 1) (.int .i64 1) (.slice A9 n9 ca9) = W2 at *
  have d0 := bX2.out.cell 0
  have d1 := bX2.out.cell 1
  have d2 := bX2.out.cell 2
  simp only [List.getElem?_toArray, List.getElem?_cons_zero, List.getElem?_cons_succ] at d0 d1 d2
  exact bodyPost_ret (v := .agg #[(.int .i64 1), (.int .i64 1), .slice A9 n9 ca9]) (by simp [results, Tryz.f202, go_sem, d0, d1, d2]) rfl ⟨_, _, _, rfl, HN9.out, HA9.out, fun a e => Nat.le_of_lt (HF9.out a e), HB3⟩
end Go.Proofs.YtdmbppgogdkpdaaGreatDoor
namespace Go.Proofs.YtdmbppgogdkpdaaGreatDoor
open Go.RowKit
end Go.Proofs.YtdmbppgogdkpdaaGreatDoor
namespace Go.Proofs.YtdmbppgogdkpdaaGreatDoor
open Go.RowKit
end Go.Proofs.YtdmbppgogdkpdaaGreatDoor
