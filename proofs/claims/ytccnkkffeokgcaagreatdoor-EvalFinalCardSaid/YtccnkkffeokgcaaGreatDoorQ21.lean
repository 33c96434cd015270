/-
  EvalFinal: the law's walk. Condition: the array can be read, its ints fit 64 bits; awake tells true.
-/
import Derived.Test.YtccnkkffeokgcaaGreatDoorQ20
namespace Go.Proofs.YtccnkkffeokgcaaGreatDoor
open Go.RowKit
def TrueP (w : World) (e : Ending) (w' : World) : Prop := e = .returned (.bool true) ∧ Below w.heap.size w w'
set_option maxRecDepth 100000 in
set_option maxHeartbeats 4000000 in
theorem law_c (r c : Int) (A : Option Addr) (n ca : Nat) (l : List Val) (s : ByteArray) (w : World) (hA : ManyR Val.cs 6 w A l) (hn : l.length = n) (hf : ∀ v ∈ l, FitsV v)
    (haw : ∀ W, Below w.heap.size w W → Calls Tryz.prog 4 #[] W (TrueP W)) :
    Calls Tryz.prog 3 #[.agg #[.int .i64 r, .int .i64 c, .slice A n ca], .string s] w (TrueP w) := by
  have HA := Lib.hid hA
  have HN := Lib.hid hn
  have HF := Lib.hid hf
  have HW := Lib.hid haw
  clear hA hn hf haw
  have HB := Lib.hid ((Below.refl _ w).alloc (Nat.le_refl _) (.cells #[.int .i64 r, .int .i64 c, .slice A n ca] 24))
  have BX := Lib.hid (Blk.new w 24 #[.int .i64 r, .int .i64 c, .slice A n ca])
  go_enter Tryz.func3, Tryz.ntmps3
  go_wp2_with fail
  generalize w.alloc (.cells #[.int .i64 r, .int .i64 c, .slice A n ca] 24) = V at *
  refine (HW.out _ HB.out).mono ?_
  rintro y w1 ⟨rfl, B1⟩
  have BX1 := Lib.hid (BX.out.kept (B1.block _ BX.out.lt))
  have HB1 := Lib.hid (HB.out.trans (B1.mono HB.out.size))
  clear B1 HB BX
  have x0 := BX1.out.cell 0
  have x1 := BX1.out.cell 1
  have x2 := BX1.out.cell 2
  simp only [List.getElem?_toArray, List.getElem?_cons_zero, List.getElem?_cons_succ] at x0 x1 x2
  by_cases h1 : 60 < n
  · have hd : decide ((60 : Int) < (n : Int)) = true := decide_eq_true (by omega)
    go_wp2_with fail
    go_ret
    exact ⟨rfl, HB1.out⟩
  by_cases h2 : 100 < s.size
  · have hd : decide ((60 : Int) < (n : Int)) = false := decide_eq_false (by omega)
    have hd2 : decide ((100 : Int) < (s.size : Int)) = true := decide_eq_true (by omega)
    go_wp2_with fail
    go_ret
    exact ⟨rfl, HB1.out⟩
  have hd : decide ((60 : Int) < (n : Int)) = false := decide_eq_false (by omega)
  have hd2 : decide ((100 : Int) < (s.size : Int)) = false := decide_eq_false (by omega)
  obtain ⟨r', c', l', k1, k2, k3, k4, k5, k6⟩ := both_c r c A n ca l w HA.out HN.out (by omega) HF.out
  have K1 := Lib.hid k1
  have K2 := Lib.hid k2
  have K3 := Lib.hid k3
  have K4 := Lib.hid k4
  have K5 := Lib.hid k5
  have K6 := Lib.hid k6
  have HS := Lib.hid (show s.size ≤ 100 by omega)
  clear k1 k2 k3 k4 k5 k6 h1 h2
  go_wp2_with fail
  refine (K5.out _ HB1.out).mono ?_
  rintro y w2 ⟨G, k, cg, rfl, hk, hG, _, B1⟩
  have BX2 := Lib.hid (BX1.out.kept (B1.block _ BX1.out.lt))
  have HB2 := Lib.hid (HB1.out.trans (B1.mono HB1.out.size))
  have HKn := Lib.hid hk
  have HG := Lib.hid hG
  clear B1 hk hG BX1 HB1 x0 x1 x2
  go_wp2_with fail
  have bl : Below w2.heap.size w2 (w2.alloc (.cells #[.int .i64 r', .int .i64 c', .slice G k cg] 24)) := (Below.refl _ _).alloc (Nat.le_refl _) _
  have BX3 := Lib.hid (BX2.out.alloc (.cells #[.int .i64 r', .int .i64 c', .slice G k cg] 24))
  have BY3 := Lib.hid (Blk.new w2 24 #[.int .i64 r', .int .i64 c', .slice G k cg])
  have HB3 := Lib.hid (HB2.out.trans (bl.mono HB2.out.size))
  have HG3 := Lib.hid (HG.out.next bl)
  clear bl BX2 HB2 HG
  generalize w2.alloc (.cells #[.int .i64 r', .int .i64 c', .slice G k cg] 24) = w3 at *
  generalize w2.heap.size = Y at *
  have HCC : Hid (∀ W, Below w3.heap.size w3 W → AllCells W [(⟨Y, 0, none⟩, .int .i64 r'), (⟨Y, 1, none⟩, .int .i64 c'), (⟨Y, 2, none⟩, .slice G k cg), (⟨w.heap.size, 0, none⟩, .int .i64 r), (⟨w.heap.size, 1, none⟩, .int .i64 c), (⟨w.heap.size, 2, none⟩, .slice A n ca)]) := fun W hW => by
    have e := hW.block _ BX3.out.lt
    have e' := hW.block _ BY3.out.lt
    have bx := BX3.out.kept e
    have bY := BY3.out.kept e'
    exact ⟨by simpa using bY.cell 0, by simpa using bY.cell 1, by simpa using bY.cell 2, by simpa using bx.cell 0, by simpa using bx.cell 1, by simpa using bx.cell 2, trivial⟩
  have HC := HCC.out _ (Below.refl _ w3).drew
  refine region_free _ [0, 1] 16 (by kernel_rfl) (by kernel_rfl) (by kernel_rfl) (by kernel_rfl) (by kernel_rfl) (fun _ _ _ _ _ h => h) HC ?_
  intro hne hu
  simp only [AllCells] at hu
  simp only [pick, List.take_succ_cons, List.take_zero, List.drop_succ_cons, List.drop_zero, List.cons_append, List.nil_append]
  repeat (go_big_quiet_step (fail))
  refine wpQuiet_nil ?_
  clear hne hu
  refine anyN_oneL 2 (by kernel_rfl) ?_
  simp only [List.take_succ_cons, List.take_zero, List.drop_succ_cons, List.drop_zero]
  have hb3 := Lib.hid (Below.refl w3.heap.size w3).drew
  go_wp2_with fail
  refine (K6.out _ (HB3.out.trans (hb3.out.mono HB3.out.size))).mono ?_
  rintro y w4 ⟨G', k', cg', rfl, hk', hG', _, B1⟩
  have HK' := Lib.hid hk'
  have hG4 := Lib.hid hG'
  have hb4 := Lib.hid (Below.comp hb3.out (show Below w3.drew.heap.size w3.drew w4 from B1))
  have HC4 := HCC.out _ hb4.out
  clear B1 hk' hG' HC hb3
  go_wp2_with fail
  refine And.intro (fun _ => HC4) ?_
  refine anyN_oneL 3 (by kernel_rfl) ?_
  simp only [List.take_succ_cons, List.take_zero, List.drop_succ_cons, List.drop_zero]
  go_wp2_with fail
  refine (sametrue_c (HG3.out.next hb4.out) hG4.out HKn.out HK'.out K4.out).mono ?_
  rintro y w5 ⟨rfl, B1⟩
  have hb5 := Lib.hid (Below.comp hb4.out B1)
  have HC5 := HCC.out _ hb5.out
  clear B1 hb4 HC4
  go_wp2_with fail
  refine And.intro (fun _ => HC5) ?_
  refine anyN_oneL 4 (by kernel_rfl) ?_
  simp only [List.take_succ_cons, List.take_zero, List.drop_succ_cons, List.drop_zero]
  go_wp2_with fail
  refine And.intro (fun _ => HC5) ?_
  refine anyN_more [5, 7] 11 (by kernel_rfl) (by kernel_rfl) (by kernel_rfl) (by kernel_rfl) (fun _ _ _ _ _ h => h) HC5 ?_
  intro hne hu
  simp only [AllCells] at hu
  simp only [pick, List.take_succ_cons, List.take_zero, List.drop_succ_cons, List.drop_zero, List.cons_append, List.nil_append]
  repeat (go_big_quiet_step (fail))
  refine wpQuiet_nil ?_
  clear hne hu
  refine anyN_oneL 6 (by kernel_rfl) ?_
  simp only [List.take_succ_cons, List.take_zero, List.drop_succ_cons, List.drop_zero]
  go_wp2_with fail
  refine (again_c (HG3.out.next hb5.out) HKn.out K4.out K3.out K1.out K2.out).mono ?_
  rintro y w6 ⟨G2, k2, cg2, rfl, hk2, hG2, _, B1⟩
  have HK2 := Lib.hid hk2
  have hG6 := Lib.hid hG2
  have hb6 := Lib.hid (Below.comp hb5.out B1)
  have HC6 := HCC.out _ hb6.out
  clear B1 hk2 hG2 HC5 hb5
  go_wp2_with fail
  refine And.intro (fun _ => HC6) ?_
  refine anyN_oneL 8 (by kernel_rfl) ?_
  simp only [List.take_succ_cons, List.take_zero, List.drop_succ_cons, List.drop_zero]
  go_wp2_with fail
  refine (sametrue_c hG6.out (HG3.out.next hb6.out) HK2.out HKn.out K4.out).mono ?_
  rintro y w7 ⟨rfl, B1⟩
  have hb7 := Lib.hid (Below.comp hb6.out B1)
  have HC7 := HCC.out _ hb7.out
  clear B1 hb6 HC6
  go_wp2_with fail
  refine And.intro (fun _ => HC7) ?_
  refine anyN_oneL 9 (by kernel_rfl) ?_
  simp only [List.take_succ_cons, List.take_zero, List.drop_succ_cons, List.drop_zero]
  go_wp2_with fail
  refine And.intro (fun _ => HC7) ?_
  refine anyN_oneL 10 (by kernel_rfl) ?_
  simp only [List.take_succ_cons, List.take_zero, List.drop_succ_cons, List.drop_zero]
  go_wp2_with fail
  refine And.intro (fun _ => HC7) ?_
  refine anyN_more [11, 13] 5 (by kernel_rfl) (by kernel_rfl) (by kernel_rfl) (by kernel_rfl) (fun _ _ _ _ _ h => h) HC7 ?_
  intro hne hu
  simp only [AllCells] at hu
  simp only [pick, List.take_succ_cons, List.take_zero, List.drop_succ_cons, List.drop_zero, List.cons_append, List.nil_append]
  repeat (go_big_quiet_step (fail))
  refine wpQuiet_nil ?_
  clear hne hu
  refine anyN_oneL 12 (by kernel_rfl) ?_
  simp only [List.take_succ_cons, List.take_zero, List.drop_succ_cons, List.drop_zero]
  go_wp2_with fail
  refine (lazy_c s HS.out _).mono ?_
  rintro y w8 ⟨rfl, B1⟩
  have hb8 := Lib.hid (Below.comp hb7.out B1)
  have HC8 := HCC.out _ hb8.out
  clear B1 hb7 HC7
  go_wp2_with fail
  refine And.intro (fun _ => HC8) ?_
  refine anyN_oneL 14 (by kernel_rfl) ?_
  simp only [List.take_succ_cons, List.take_zero, List.drop_succ_cons, List.drop_zero]
  go_wp2_with fail
  refine (rlazy_c s _).mono ?_
  rintro y w9 ⟨rfl, B1⟩
  have hb9 := Lib.hid (Below.comp hb8.out B1)
  have HC9 := HCC.out _ hb9.out
  clear B1 hb8 HC8
  go_wp2_with fail
  refine And.intro (fun _ => HC9) ?_
  refine anyN_oneL 15 (by kernel_rfl) ?_
  simp only [List.take_succ_cons, List.take_zero, List.drop_succ_cons, List.drop_zero]
  go_wp2_with fail
  refine And.intro (fun _ => HC9) ?_
  refine anyN_oneL 16 (by kernel_rfl) ?_
  simp only [List.take_succ_cons, List.take_zero, List.drop_succ_cons, List.drop_zero]
  go_wp2_with fail
  refine And.intro (fun _ => HC9) ?_
  refine anyN_oneL 17 (by kernel_rfl) ?_
  simp only [List.take_succ_cons, List.take_zero, List.drop_succ_cons, List.drop_zero]
  go_wp2_with fail
  refine And.intro (fun _ => HC9) ?_
  refine ⟨by kernel_rfl, ?_⟩
  have HBF := Lib.hid (HB3.out.trans (hb9.out.mono HB3.out.size))
  go_wp2_with fail
  go_ret
  exact ⟨rfl, HBF.out⟩
end Go.Proofs.YtccnkkffeokgcaaGreatDoor
