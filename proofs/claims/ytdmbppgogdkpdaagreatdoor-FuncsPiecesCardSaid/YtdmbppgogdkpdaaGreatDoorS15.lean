/-
  The tables of the families of numbers and of arrays; fmath.Call at SUM, COUNT, COUNTA: their contracts. Condition: one array that may be, of at most 4096 values.
  The tables of the families of numbers and of arrays; farray.Call at COLUMNS, ROWS, TOCOL, TOROW, TRANSPOSE: their contracts. Condition: one array that may be, of at most 4096 values.
  Lib.Call of a name that the first family knows; that the fifth knows and the four before it do not. No condition.
-/
import Derived.Test.YtdmbppgogdkpdaaGreatDoorS12
import Derived.Test.YtdmbppgogdkpdaaGreatDoorM2
import Derived.Test.YtdmbppgogdkpdaaGreatDoorB2
import Derived.Deep.WholeRow
set_option linter.unusedSectionVars false
namespace Go.Proofs.YtdmbppgogdkpdaaGreatDoor
open Go.RowKit
def CallA (w : World) (r c : Int) (l : List Val) (e : Ending) (w' : World) : Prop := ∃ A n ca, e = .returned (.tuple #[.agg #[.int .i64 r, .int .i64 c, .slice A n ca], .bool true]) ∧ l.length = n ∧ ManyR Val.cs 6 w' A l ∧ (∀ a, A = some a → w.heap.size ≤ a.block) ∧ Below w.heap.size w w'
end Go.Proofs.YtdmbppgogdkpdaaGreatDoor
namespace Go.Proofs.YtdmbppgogdkpdaaGreatDoor
open Go.RowKit
set_option maxRecDepth 100000 in
theorem tabA_c (name : ByteArray) (g : Nat) (hT : ∀ [AM.Toks] (v : Value) (H : AM.AH), AM.lookA Tryz.prog v H = true → AM.lookFn (AM.envP Tryz.prog) AM.eqP 114 name v (.tuple #[.agg #[.int .i64 1, .int .i64 1, .func (.func g) #[] #[]], .bool true]) H = true) (W : World) :
    Calls Tryz.prog 99 #[] W fun e w' => ∃ v, e = .returned v ∧ Below W.heap.size W w' ∧ ∀ W', Below w'.heap.size w' W' → (Instr.lookup 114 v (.string name) true).run Tryz.prog W' = .ok (.tuple #[.agg #[.int .i64 1, .int .i64 1, .func (.func g) #[] #[]], .bool true]) W' := by
  letI : AM.Toks := AM.noToks
  refine (AM.closed_calls AM.amP_ok.1 AM.tab_A W).mono ?_
  rintro e w' ⟨ν, v, v', H, hb, rfl, hrel, hv⟩
  exact ⟨v', rfl, hrel.belowB, fun W' hW => AM.lookFn_ok AM.envP_ok AM.eqP_ok hrel hv (hT v H hb) rfl W' hW⟩
set_option maxRecDepth 100000 in
set_option maxHeartbeats 1000000 in
theorem callColumns_c (bG : Nat) (R C : Int) (A : Option Addr) (n ca cG : Nat) (l : List Val) (w : World) (hG : Blk w bG 28 #[.int .i64 R, .int .i64 C, .slice A n ca]) (hA : ManyR Val.cs 6 w A l) (hn : l.length = n) (hm : n ≤ 4096) (hf : ∀ v ∈ l, FitsV v) (hr : RightA R C l)
    (r c : Int) (l' : List Val) (hcl : ∀ W, Below w.heap.size w W → Calls Tryz.prog 202 #[.slice (some ⟨bG, 0, none⟩) 1 cG] W (RetA W r c l')) :
    Calls Tryz.prog 55 #[.string ⟨#[67, 79, 76, 85, 77, 78, 83]⟩, .slice (some ⟨bG, 0, none⟩) 1 cG] w (CallA w r c l') := by
  have HB := Lib.hid ((Below.refl _ w).alloc (Nat.le_refl _) (.cells #[.int .i64 0, .int .i64 0, .slice none 0 0] 28))
  have BX := Lib.hid (Blk.new w 28 #[.int .i64 0, .int .i64 0, .slice none 0 0])
  have HTB := Lib.hid (fun W => tabA_c ⟨#[67, 79, 76, 85, 77, 78, 83]⟩ 202 (fun v H h => by unfold AM.lookA at h; simp only [Bool.and_eq_true] at h; exact h.1.1.1.1) W)
  have HG := Lib.hid hG
  have HA := Lib.hid hA
  have HRT := Lib.hid (fun W (h : ManyR Val.cs 6 W A l) => shright_c R C A n ca l W h hn hm hf)
  have HRI := Lib.hid hr
  have HCL := Lib.hid hcl
  clear hG hA hn hf hr hcl
  go_enter Tryz.func55, Tryz.ntmps55
  go_wp2_with fail
  refine (HTB.out _).mono ?_
  rintro _ w1 ⟨mv, rfl, hB1, hlook⟩
  have hrun := hlook w1 (Below.refl _ _)
  have BX1 := Lib.hid ((BX.out.kept (hB1.block _ BX.out.lt)).alloc (.cells #[.int .i64 1, .int .i64 1, .func (.func 202) #[] #[]] 116))
  have HB1 := Lib.hid ((HB.out.trans (hB1.mono HB.out.size)).alloc (Nat.le_trans HB.out.size hB1.size) (.cells #[.int .i64 1, .int .i64 1, .func (.func 202) #[] #[]] 116))
  have HP1 := Lib.hid (Blk.new w1 116 #[.int .i64 1, .int .i64 1, .func (.func 202) #[] #[]])
  have HPS := Lib.hid (show w.heap.size < w1.heap.size from Nat.lt_of_lt_of_le BX.out.lt hB1.size)
  clear hB1 hlook HB BX HTB
  have p0 := HP1.out.cell 0
  have p1 := HP1.out.cell 1
  have p2 := HP1.out.cell 2
  simp only [List.getElem?_toArray, List.getElem?_cons_zero, List.getElem?_cons_succ] at p0 p1 p2
  go_wp2_with (refine wpList_store_row rfl 116 _ _ rfl w1.heap.size #[.int .i64 1, .int .i64 1, .func (.func 202) #[] #[]] rfl rfl 116 #[.int .i64 0, .int .i64 0, .nilFunc] (new_lies w1 _) (by kernel_rfl) rfl (by simp [Value.oneCell']) ?_; rw [World.setRow_alloc_new])
  clear p0 p1 p2 hrun
  generalize w1.alloc (.cells #[.int .i64 1, .int .i64 1, .func (.func 202) #[] #[]] 116) = V at *
  generalize w1.heap.size = p at *
  go_loopw [34] (fun v wr => ∃ j : Nat, j ≤ 1 ∧ v = .int .i64 (j : Int) ∧ Hid (Below V.heap.size V wr)) (fun v _ => 1 - (intOf v).toNat)
  case atStart => exact ⟨0, by omega, rfl, Lib.hid (Below.refl _ _)⟩
  case round =>
    obtain ⟨j, hj, rfl, hb⟩ := hrel
    have bW := Lib.hid (HB1.out.trans (hb.out.mono HB1.out.size))
    have BXW := Lib.hid (BX1.out.kept (hb.out.block _ BX1.out.lt))
    have GW := Lib.hid (HG.out.kept (bW.out.block _ HG.out.lt))
    have HAW := Lib.hid (HA.out.next bW.out)
    rcases (show j = 0 ∨ j = 1 by omega) with rfl | rfl
    · have HBr := hb
      have g0 := GW.out.cell 0
      have g1 := GW.out.cell 1
      have g2 := GW.out.cell 2
      simp only [List.getElem?_toArray, List.getElem?_cons_zero, List.getElem?_cons_succ] at g0 g1 g2
      have HB2 := Lib.hid (hb.out.alloc hb.out.size (.cells #[.int .i64 R, .int .i64 C, .slice A n ca] 28))
      have HN2 := Lib.hid (Blk.new wr 28 #[.int .i64 R, .int .i64 C, .slice A n ca])
      have HR2 := Lib.hid (HRT.out (wr.alloc (.cells #[.int .i64 R, .int .i64 C, .slice A n ca] 28)) (HAW.out.next ((Below.refl _ wr).alloc (Nat.le_refl _) _)))
      have a0 := HN2.out.cell 0
      have a1 := HN2.out.cell 1
      have a2 := HN2.out.cell 2
      simp only [List.getElem?_toArray, List.getElem?_cons_zero, List.getElem?_cons_succ] at a0 a1 a2
      clear bW BXW GW HAW
      go_wp2_with fail
      refine HR2.out.mono ?_
      rintro y w3 ⟨b1, rfl, r1, B1⟩
      obtain rfl : b1 = true := r1.2 HRI.out
      have HB3 := Lib.hid (HB2.out.trans (B1.mono HB2.out.size))
      clear B1 r1 g0 g1 g2 a0 a1 a2 HB2 HN2
      go_wp2_with fail
      go_roundw
      case rel => exact ⟨1, by omega, by go_num, HB3⟩
      case measure => simp [intOf]
    · have hPW := Lib.hid (HP1.out.kept (hb.out.block _ HP1.out.lt))
      have HC2 := Lib.hid (HCL.out wr bW.out)
      have p0 := hPW.out.cell 0
      have p1 := hPW.out.cell 1
      have p2 := hPW.out.cell 2
      simp only [List.getElem?_toArray, List.getElem?_cons_zero, List.getElem?_cons_succ] at p0 p1 p2
      clear hb GW HAW BX1 HB1
      go_wp2_with fail
      refine HC2.out.mono ?_
      clear p0 p1 p2
      rintro y w9 ⟨A9, n9, ca9, rfl, hn9, hA9, hF9, B9⟩
      have BXt := Lib.hid (BXW.out.kept (B9.block _ BXW.out.lt))
      have HBt := Lib.hid (bW.out.trans (B9.mono bW.out.size))
      have HN9 := Lib.hid hn9
      have HF9 := Lib.hid (show ∀ a, A9 = some a → w.heap.size < a.block from fun a e => Nat.lt_of_lt_of_le BXW.out.lt (hF9 a e))
      have HA9 := Lib.hid (manyR_put3 hA9 (X := w.heap.size) (fun a e => by have := HF9.out a e; omega) (.int .i64 r) (.int .i64 c) (.slice A9 n9 ca9))
      clear B9 hn9 hA9 hF9 BXW bW
      have e0 := BXt.out.cell 0
      have e1 := BXt.out.cell 1
      have e2 := BXt.out.cell 2
      simp only [List.getElem?_toArray, List.getElem?_cons_zero, List.getElem?_cons_succ] at e0 e1 e2
      have f0 := BXt.out.frozen 0
      have f1 := BXt.out.frozen 1
      have f2 := BXt.out.frozen 2
      have lX := BXt.out.lt
      go_wp2_with fail
      change bodyPost _ _ _ _ _ (put3 w9 w.heap.size (.int .i64 r) (.int .i64 c) (.slice A9 n9 ca9))
      have bXt := Lib.hid (blk_put3 BXt.out (.int .i64 r) (.int .i64 c) (.slice A9 n9 ca9))
      have HBu := below_put3 HBt.out (Nat.le_refl _) (.int .i64 r) (.int .i64 c) (.slice A9 n9 ca9)
      generalize put3 w9 w.heap.size (.int .i64 r) (.int .i64 c) (.slice A9 n9 ca9) = W2 at *
      have d0 := bXt.out.cell 0
      have d1 := bXt.out.cell 1
      have d2 := bXt.out.cell 2
      simp only [List.getElem?_toArray, List.getElem?_cons_zero, List.getElem?_cons_succ] at d0 d1 d2
      exact bodyPost_ret (v := .tuple #[.agg #[.int .i64 r, .int .i64 c, .slice A9 n9 ca9], .bool true]) (by simp [results, Tryz.f55, go_sem, d0, d1, d2]) rfl ⟨_, _, _, rfl, HN9.out, HA9.out, fun a e => Nat.le_of_lt (HF9.out a e), HBu⟩
end Go.Proofs.YtdmbppgogdkpdaaGreatDoor
namespace Go.Proofs.YtdmbppgogdkpdaaGreatDoor
open Go.RowKit
def famCells : Array Value := #[.func (.func 42) #[] #[], .func (.func 43) #[] #[], .func (.func 44) #[] #[], .func (.func 45) #[] #[], .func (.func 46) #[] #[], .func (.func 47) #[] #[], .func (.func 48) #[] #[], .func (.func 49) #[] #[], .func (.func 50) #[] #[], .func (.func 51) #[] #[], .func (.func 52) #[] #[], .func (.func 53) #[] #[], .func (.func 54) #[] #[], .func (.func 55) #[] #[], .func (.func 56) #[] #[]]
theorem cell_at {w : World} {b : Nat} {c : Array Value} {t : TypeId} {o : Nat} {v : Value} (hb : w.heap[b]? = some (.cells c t)) (hv : c[o]? = some v) : w.cell? ⟨b, o, none⟩ = some v := by
  unfold World.cell?
  dsimp only
  rw [hb]
  exact hv
set_option maxRecDepth 100000 in
theorem store3 (w : World) (x0 x1 x2 : Value) (f0 f1 f2 : Nat) :
    ((Sem.run Tryz.prog (store ⟨w.heap.size, 0, none⟩ (.func (.func f0) #[] #[])) (w.alloc (.cells #[x0, x1, x2] 58))).andThen fun _ w' =>
      (Sem.run Tryz.prog (store ⟨w.heap.size, 1, none⟩ (.func (.func f1) #[] #[])) w').andThen fun _ w' =>
        Sem.run Tryz.prog (store ⟨w.heap.size, 2, none⟩ (.func (.func f2) #[] #[])) w') = .ok () (w.alloc (.cells #[.func (.func f0) #[] #[], .func (.func f1) #[] #[], .func (.func f2) #[] #[]] 58)) := by
  have h := run_storeCells_new (P := Tryz.prog) w 58 #[x0, x1, x2] #[.func (.func f0) #[] #[], .func (.func f1) #[] #[], .func (.func f2) #[] #[]] (by kernel_rfl) rfl (by simp [Value.oneCell'])
  simpa [storeCells, Addr.add] using h
set_option maxRecDepth 100000 in
theorem families26 (w : World) : Calls Tryz.prog 26 #[] w fun e w' => e = .returned (.slice (some ⟨w.heap.size, 0, none⟩) 5 5) ∧ w' = w.alloc (.cells famCells 58) := by
  go_enter Tryz.func26, Tryz.ntmps26
  go_wp2_with fail
  go_ret
  exact ⟨rfl, rfl⟩
def NoneP (w : World) (e : Ending) (w' : World) : Prop := e = .returned (.tuple #[.agg #[.int .i64 0, .int .i64 0, .slice none 0 0], .bool false]) ∧ Below w.heap.size w w'
set_option maxRecDepth 100000 in
set_option maxHeartbeats 1000000 in
theorem lib_a (nb : ByteArray) (bG cG : Nat) (r c : Int) (l' : List Val) (w : World) (h0 : ∀ W, Calls Tryz.prog 43 #[.string nb, .slice (some ⟨bG, 0, none⟩) 1 cG] W (NoneP W)) (h1 : ∀ W, Calls Tryz.prog 46 #[.string nb, .slice (some ⟨bG, 0, none⟩) 1 cG] W (NoneP W)) (h2 : ∀ W, Calls Tryz.prog 49 #[.string nb, .slice (some ⟨bG, 0, none⟩) 1 cG] W (NoneP W)) (h3 : ∀ W, Calls Tryz.prog 52 #[.string nb, .slice (some ⟨bG, 0, none⟩) 1 cG] W (NoneP W))
    (hc : ∀ W, Below w.heap.size w W → Calls Tryz.prog 55 #[.string nb, .slice (some ⟨bG, 0, none⟩) 1 cG] W (CallA W r c l')) :
    Calls Tryz.prog 16 #[.agg #[], .string nb, .slice (some ⟨bG, 0, none⟩) 1 cG] w (CallA w r c l') := by
  have HH := Lib.hid hc
  have H0 := Lib.hid h0
  have H1 := Lib.hid h1
  have H2 := Lib.hid h2
  have H3 := Lib.hid h3
  clear hc h0 h1 h2 h3
  have HB := Lib.hid (((Below.refl w.heap.size w).alloc (Nat.le_refl _) (.cells #[] 31)).alloc (by simp) (.cells #[.int .i64 0, .int .i64 0, .slice none 0 0] 28))
  have HL := Lib.hid (show Blk ((w.alloc (.cells #[] 31)).alloc (.cells #[.int .i64 0, .int .i64 0, .slice none 0 0] 28)) (w.heap.size + 1) 28 #[.int .i64 0, .int .i64 0, .slice none 0 0] by
    have := Blk.new (w.alloc (.cells #[] 31)) 28 #[.int .i64 0, .int .i64 0, .slice none 0 0]
    rwa [show (w.alloc (.cells #[] 31)).heap.size = w.heap.size + 1 by simp] at this)
  go_enter Tryz.func16, Tryz.ntmps16
  go_wp2_with fail
  generalize (w.alloc (.cells #[] 31)).alloc (.cells #[.int .i64 0, .int .i64 0, .slice none 0 0] 28) = V at *
  refine Calls.mono (families26 _) ?_
  rintro _ w2 ⟨rfl, rfl⟩
  have HF := Lib.hid (Blk.new V 58 famCells)
  have HB1 := Lib.hid (HB.out.alloc HB.out.size (.cells famCells 58))
  have HL1 := Lib.hid (HL.out.alloc (.cells famCells 58))
  clear HB HL
  go_wp2_with fail
  generalize V.heap.size = F at *
  go_loopw [14] (fun v wr => ∃ j : Nat, j ≤ 4 ∧ v = .int .i64 (j : Int) ∧ Hid (Below w.heap.size w wr) ∧ Hid (Blk wr (w.heap.size + 1) 28 #[.int .i64 0, .int .i64 0, .slice none 0 0]) ∧ Hid (Blk wr F 58 famCells)) (fun v _ => 5 - (intOf v).toNat)
  case atStart => exact ⟨0, by omega, rfl, HB1, HL1, HF⟩
  case round =>
    obtain ⟨j, hj, rfl, hb, hl, hf⟩ := hrel
    clear HB1 HL1 HF
    rcases (show j = 0 ∨ j = 1 ∨ j = 2 ∨ j = 3 ∨ j = 4 by omega) with rfl | rfl | rfl | rfl | rfl
    · skip
      have g0 : wr.cell? ⟨F, 0, none⟩ = some (.func (.func 42) #[] #[]) := cell_at hf.out rfl
      have g1 : wr.cell? ⟨F, 1, none⟩ = some (.func (.func 43) #[] #[]) := cell_at hf.out rfl
      have g2 : wr.cell? ⟨F, 2, none⟩ = some (.func (.func 44) #[] #[]) := cell_at hf.out rfl
      go_wp2_with fail
      clear g0 g1 g2
      refine upon_run (store3 wr _ _ _ 42 43 44) ?_
      have HN := Lib.hid (Blk.new wr 58 #[.func (.func 42) #[] #[], .func (.func 43) #[] #[], .func (.func 44) #[] #[]])
      have HB2 := Lib.hid (hb.out.alloc hb.out.size (.cells #[.func (.func 42) #[] #[], .func (.func 43) #[] #[], .func (.func 44) #[] #[]] 58))
      have hF2 := Lib.hid (hf.out.alloc (.cells #[.func (.func 42) #[] #[], .func (.func 43) #[] #[], .func (.func 44) #[] #[]] 58))
      have hL2 := Lib.hid (hl.out.alloc (.cells #[.func (.func 42) #[] #[], .func (.func 43) #[] #[], .func (.func 44) #[] #[]] 58))
      have k1 := cell_at HN.out (o := 1) (v := .func (.func 43) #[] #[]) rfl
      go_wp2_with fail
      refine Calls.mono (H0.out _) ?_
      rintro _ w3 ⟨rfl, q⟩
      clear k1
      have HB3 := Lib.hid ((HB2.out.trans (q.mono HB2.out.size)).alloc (Nat.le_trans HB2.out.size q.size) (.cells #[.int .i64 0, .int .i64 0, .slice none 0 0] 28))
      have hF3 := Lib.hid ((hF2.out.kept (q.block _ hF2.out.lt)).alloc (.cells #[.int .i64 0, .int .i64 0, .slice none 0 0] 28))
      have hL3 := Lib.hid ((hL2.out.kept (q.block _ hL2.out.lt)).alloc (.cells #[.int .i64 0, .int .i64 0, .slice none 0 0] 28))
      clear q HB2 hF2 hL2 HN
      go_wp2_with (refine wpList_store_row rfl 28 _ _ rfl w3.heap.size #[.int .i64 0, .int .i64 0, .slice none 0 0] rfl rfl 28 #[.int .i64 0, .int .i64 0, .slice none 0 0] (new_lies w3 _) (by kernel_rfl) rfl (by simp [Value.oneCell']) ?_; rw [World.setRow_alloc_new])
      exact ⟨⟨0 + 1, by omega, rfl, HB3, hL3, hF3⟩, by simp [intOf]⟩
    · skip
      have g0 : wr.cell? ⟨F, 3, none⟩ = some (.func (.func 45) #[] #[]) := cell_at hf.out rfl
      have g1 : wr.cell? ⟨F, 4, none⟩ = some (.func (.func 46) #[] #[]) := cell_at hf.out rfl
      have g2 : wr.cell? ⟨F, 5, none⟩ = some (.func (.func 47) #[] #[]) := cell_at hf.out rfl
      go_wp2_with fail
      clear g0 g1 g2
      refine upon_run (store3 wr _ _ _ 45 46 47) ?_
      have HN := Lib.hid (Blk.new wr 58 #[.func (.func 45) #[] #[], .func (.func 46) #[] #[], .func (.func 47) #[] #[]])
      have HB2 := Lib.hid (hb.out.alloc hb.out.size (.cells #[.func (.func 45) #[] #[], .func (.func 46) #[] #[], .func (.func 47) #[] #[]] 58))
      have hF2 := Lib.hid (hf.out.alloc (.cells #[.func (.func 45) #[] #[], .func (.func 46) #[] #[], .func (.func 47) #[] #[]] 58))
      have hL2 := Lib.hid (hl.out.alloc (.cells #[.func (.func 45) #[] #[], .func (.func 46) #[] #[], .func (.func 47) #[] #[]] 58))
      have k1 := cell_at HN.out (o := 1) (v := .func (.func 46) #[] #[]) rfl
      go_wp2_with fail
      refine Calls.mono (H1.out _) ?_
      rintro _ w3 ⟨rfl, q⟩
      clear k1
      have HB3 := Lib.hid ((HB2.out.trans (q.mono HB2.out.size)).alloc (Nat.le_trans HB2.out.size q.size) (.cells #[.int .i64 0, .int .i64 0, .slice none 0 0] 28))
      have hF3 := Lib.hid ((hF2.out.kept (q.block _ hF2.out.lt)).alloc (.cells #[.int .i64 0, .int .i64 0, .slice none 0 0] 28))
      have hL3 := Lib.hid ((hL2.out.kept (q.block _ hL2.out.lt)).alloc (.cells #[.int .i64 0, .int .i64 0, .slice none 0 0] 28))
      clear q HB2 hF2 hL2 HN
      go_wp2_with (refine wpList_store_row rfl 28 _ _ rfl w3.heap.size #[.int .i64 0, .int .i64 0, .slice none 0 0] rfl rfl 28 #[.int .i64 0, .int .i64 0, .slice none 0 0] (new_lies w3 _) (by kernel_rfl) rfl (by simp [Value.oneCell']) ?_; rw [World.setRow_alloc_new])
      exact ⟨⟨1 + 1, by omega, rfl, HB3, hL3, hF3⟩, by simp [intOf]⟩
    · skip
      have g0 : wr.cell? ⟨F, 6, none⟩ = some (.func (.func 48) #[] #[]) := cell_at hf.out rfl
      have g1 : wr.cell? ⟨F, 7, none⟩ = some (.func (.func 49) #[] #[]) := cell_at hf.out rfl
      have g2 : wr.cell? ⟨F, 8, none⟩ = some (.func (.func 50) #[] #[]) := cell_at hf.out rfl
      go_wp2_with fail
      clear g0 g1 g2
      refine upon_run (store3 wr _ _ _ 48 49 50) ?_
      have HN := Lib.hid (Blk.new wr 58 #[.func (.func 48) #[] #[], .func (.func 49) #[] #[], .func (.func 50) #[] #[]])
      have HB2 := Lib.hid (hb.out.alloc hb.out.size (.cells #[.func (.func 48) #[] #[], .func (.func 49) #[] #[], .func (.func 50) #[] #[]] 58))
      have hF2 := Lib.hid (hf.out.alloc (.cells #[.func (.func 48) #[] #[], .func (.func 49) #[] #[], .func (.func 50) #[] #[]] 58))
      have hL2 := Lib.hid (hl.out.alloc (.cells #[.func (.func 48) #[] #[], .func (.func 49) #[] #[], .func (.func 50) #[] #[]] 58))
      have k1 := cell_at HN.out (o := 1) (v := .func (.func 49) #[] #[]) rfl
      go_wp2_with fail
      refine Calls.mono (H2.out _) ?_
      rintro _ w3 ⟨rfl, q⟩
      clear k1
      have HB3 := Lib.hid ((HB2.out.trans (q.mono HB2.out.size)).alloc (Nat.le_trans HB2.out.size q.size) (.cells #[.int .i64 0, .int .i64 0, .slice none 0 0] 28))
      have hF3 := Lib.hid ((hF2.out.kept (q.block _ hF2.out.lt)).alloc (.cells #[.int .i64 0, .int .i64 0, .slice none 0 0] 28))
      have hL3 := Lib.hid ((hL2.out.kept (q.block _ hL2.out.lt)).alloc (.cells #[.int .i64 0, .int .i64 0, .slice none 0 0] 28))
      clear q HB2 hF2 hL2 HN
      go_wp2_with (refine wpList_store_row rfl 28 _ _ rfl w3.heap.size #[.int .i64 0, .int .i64 0, .slice none 0 0] rfl rfl 28 #[.int .i64 0, .int .i64 0, .slice none 0 0] (new_lies w3 _) (by kernel_rfl) rfl (by simp [Value.oneCell']) ?_; rw [World.setRow_alloc_new])
      exact ⟨⟨2 + 1, by omega, rfl, HB3, hL3, hF3⟩, by simp [intOf]⟩
    · skip
      have g0 : wr.cell? ⟨F, 9, none⟩ = some (.func (.func 51) #[] #[]) := cell_at hf.out rfl
      have g1 : wr.cell? ⟨F, 10, none⟩ = some (.func (.func 52) #[] #[]) := cell_at hf.out rfl
      have g2 : wr.cell? ⟨F, 11, none⟩ = some (.func (.func 53) #[] #[]) := cell_at hf.out rfl
      go_wp2_with fail
      clear g0 g1 g2
      refine upon_run (store3 wr _ _ _ 51 52 53) ?_
      have HN := Lib.hid (Blk.new wr 58 #[.func (.func 51) #[] #[], .func (.func 52) #[] #[], .func (.func 53) #[] #[]])
      have HB2 := Lib.hid (hb.out.alloc hb.out.size (.cells #[.func (.func 51) #[] #[], .func (.func 52) #[] #[], .func (.func 53) #[] #[]] 58))
      have hF2 := Lib.hid (hf.out.alloc (.cells #[.func (.func 51) #[] #[], .func (.func 52) #[] #[], .func (.func 53) #[] #[]] 58))
      have hL2 := Lib.hid (hl.out.alloc (.cells #[.func (.func 51) #[] #[], .func (.func 52) #[] #[], .func (.func 53) #[] #[]] 58))
      have k1 := cell_at HN.out (o := 1) (v := .func (.func 52) #[] #[]) rfl
      go_wp2_with fail
      refine Calls.mono (H3.out _) ?_
      rintro _ w3 ⟨rfl, q⟩
      clear k1
      have HB3 := Lib.hid ((HB2.out.trans (q.mono HB2.out.size)).alloc (Nat.le_trans HB2.out.size q.size) (.cells #[.int .i64 0, .int .i64 0, .slice none 0 0] 28))
      have hF3 := Lib.hid ((hF2.out.kept (q.block _ hF2.out.lt)).alloc (.cells #[.int .i64 0, .int .i64 0, .slice none 0 0] 28))
      have hL3 := Lib.hid ((hL2.out.kept (q.block _ hL2.out.lt)).alloc (.cells #[.int .i64 0, .int .i64 0, .slice none 0 0] 28))
      clear q HB2 hF2 hL2 HN
      go_wp2_with (refine wpList_store_row rfl 28 _ _ rfl w3.heap.size #[.int .i64 0, .int .i64 0, .slice none 0 0] rfl rfl 28 #[.int .i64 0, .int .i64 0, .slice none 0 0] (new_lies w3 _) (by kernel_rfl) rfl (by simp [Value.oneCell']) ?_; rw [World.setRow_alloc_new])
      exact ⟨⟨3 + 1, by omega, rfl, HB3, hL3, hF3⟩, by simp [intOf]⟩
    · skip
      have g0 : wr.cell? ⟨F, 12, none⟩ = some (.func (.func 54) #[] #[]) := cell_at hf.out rfl
      have g1 : wr.cell? ⟨F, 13, none⟩ = some (.func (.func 55) #[] #[]) := cell_at hf.out rfl
      have g2 : wr.cell? ⟨F, 14, none⟩ = some (.func (.func 56) #[] #[]) := cell_at hf.out rfl
      go_wp2_with fail
      clear g0 g1 g2
      refine upon_run (store3 wr _ _ _ 54 55 56) ?_
      have HN := Lib.hid (Blk.new wr 58 #[.func (.func 54) #[] #[], .func (.func 55) #[] #[], .func (.func 56) #[] #[]])
      have HB2 := Lib.hid (hb.out.alloc hb.out.size (.cells #[.func (.func 54) #[] #[], .func (.func 55) #[] #[], .func (.func 56) #[] #[]] 58))
      have hF2 := Lib.hid (hf.out.alloc (.cells #[.func (.func 54) #[] #[], .func (.func 55) #[] #[], .func (.func 56) #[] #[]] 58))
      have hL2 := Lib.hid (hl.out.alloc (.cells #[.func (.func 54) #[] #[], .func (.func 55) #[] #[], .func (.func 56) #[] #[]] 58))
      have k1 := cell_at HN.out (o := 1) (v := .func (.func 55) #[] #[]) rfl
      go_wp2_with fail
      refine Calls.mono (HH.out _ HB2.out) ?_
      rintro y w9 ⟨A9, n9, ca9, rfl, hn9, hA9, hF9, B9⟩
      clear k1
      have BXt := Lib.hid ((hL2.out.kept (B9.block _ hL2.out.lt)).alloc (.cells #[.int .i64 r, .int .i64 c, .slice A9 n9 ca9] 28))
      have HBt := Lib.hid ((HB2.out.trans (B9.mono HB2.out.size)).alloc (Nat.le_trans HB2.out.size B9.size) (.cells #[.int .i64 r, .int .i64 c, .slice A9 n9 ca9] 28))
      have HN9 := Lib.hid hn9
      have HF9 := Lib.hid (show ∀ a, A9 = some a → w.heap.size + 1 < a.block from fun a e => Nat.lt_of_lt_of_le hL2.out.lt (hF9 a e))
      have HA9 := Lib.hid (manyR_put3 (hA9.next ((Below.refl _ w9).alloc (Nat.le_refl _) (.cells #[.int .i64 r, .int .i64 c, .slice A9 n9 ca9] 28))) (X := w.heap.size + 1) (fun a e => by have := HF9.out a e; omega) (.int .i64 r) (.int .i64 c) (.slice A9 n9 ca9))
      have HZ9 := Lib.hid (Blk.new w9 28 #[.int .i64 r, .int .i64 c, .slice A9 n9 ca9])
      clear B9 hn9 hA9 hF9 hL2 HB2 HN
      have e0 := BXt.out.cell 0
      have e1 := BXt.out.cell 1
      have e2 := BXt.out.cell 2
      simp only [List.getElem?_toArray, List.getElem?_cons_zero, List.getElem?_cons_succ] at e0 e1 e2
      have f0 := BXt.out.frozen 0
      have f1 := BXt.out.frozen 1
      have f2 := BXt.out.frozen 2
      have lX := BXt.out.lt
      have z0 := HZ9.out.cell 0
      have z1 := HZ9.out.cell 1
      have z2 := HZ9.out.cell 2
      simp only [List.getElem?_toArray, List.getElem?_cons_zero, List.getElem?_cons_succ] at z0 z1 z2
      go_wp2_with fail
      change bodyPost _ _ _ _ _ (put3 (w9.alloc (.cells #[.int .i64 r, .int .i64 c, .slice A9 n9 ca9] 28)) (w.heap.size + 1) (.int .i64 r) (.int .i64 c) (.slice A9 n9 ca9))
      have bXt := Lib.hid (blk_put3 BXt.out (.int .i64 r) (.int .i64 c) (.slice A9 n9 ca9))
      have HBu := below_put3 HBt.out (Nat.le_succ _) (.int .i64 r) (.int .i64 c) (.slice A9 n9 ca9)
      generalize put3 (w9.alloc (.cells #[.int .i64 r, .int .i64 c, .slice A9 n9 ca9] 28)) (w.heap.size + 1) (.int .i64 r) (.int .i64 c) (.slice A9 n9 ca9) = W2 at *
      have d0 := bXt.out.cell 0
      have d1 := bXt.out.cell 1
      have d2 := bXt.out.cell 2
      simp only [List.getElem?_toArray, List.getElem?_cons_zero, List.getElem?_cons_succ] at d0 d1 d2
      exact bodyPost_ret (v := .tuple #[.agg #[.int .i64 r, .int .i64 c, .slice A9 n9 ca9], .bool true]) (by simp [results, Tryz.f16, go_sem, d0, d1, d2]) rfl ⟨_, _, _, rfl, HN9.out, HA9.out, fun a e => by have := HF9.out a e; omega, HBu⟩
end Go.Proofs.YtdmbppgogdkpdaaGreatDoor
