/-
  The law's closure: a name and an array are handed to Lib.Call. No condition beyond those said.
  Plain: an array turned twice is itself; a turned array holds the same values as often. Condition: rows times columns is the number of values.
  FuncsShapes: its awake tells true (reckoned by the abstract machine). No condition.
  Plain: a row turned is the column; what the asked functions give back may be asked again. No condition beyond those said.
-/
import Derived.Test.YtdmbppgogdkpdaaGreatDoorS15
import Derived.Test.YtdmbppgogdkpdaaGreatDoorM2
set_option linter.unusedSectionVars false
namespace Go.Proofs.YtdmbppgogdkpdaaGreatDoor
open Go.RowKit
set_option maxRecDepth 100000 in
set_option maxHeartbeats 1000000 in
theorem ask_c (nb : ByteArray) (R C : Int) (A : Option Addr) (n ca bL : Nat) (w : World) (hL : Blk w bL 31 #[]) (r c : Int) (l' : List Val) (hc : ∀ W bG, Below w.heap.size w W → Blk W bG 28 #[.int .i64 R, .int .i64 C, .slice A n ca] → Calls Tryz.prog 16 #[.agg #[], .string nb, .slice (some ⟨bG, 0, none⟩) 1 1] W (CallA W r c l')) :
    Calls Tryz.prog 15 #[.string nb, .agg #[.int .i64 R, .int .i64 C, .slice A n ca], .pointer (some ⟨bL, 0, none⟩)] w (RetA w r c l') := by
  have HB := Lib.hid (((Below.refl w.heap.size w).alloc (Nat.le_refl _) (.cells #[.int .i64 R, .int .i64 C, .slice A n ca] 28)).alloc (by simp) (.cells #[.int .i64 0, .int .i64 0, .slice none 0 0] 28))
  have BA := Lib.hid ((Blk.new w 28 #[.int .i64 R, .int .i64 C, .slice A n ca]).alloc (.cells #[.int .i64 0, .int .i64 0, .slice none 0 0] 28))
  have BX := Lib.hid (show Blk ((w.alloc (.cells #[.int .i64 R, .int .i64 C, .slice A n ca] 28)).alloc (.cells #[.int .i64 0, .int .i64 0, .slice none 0 0] 28)) (w.heap.size + 1) 28 #[.int .i64 0, .int .i64 0, .slice none 0 0] by
    have := Blk.new (w.alloc (.cells #[.int .i64 R, .int .i64 C, .slice A n ca] 28)) 28 #[.int .i64 0, .int .i64 0, .slice none 0 0]
    rwa [show (w.alloc (.cells #[.int .i64 R, .int .i64 C, .slice A n ca] 28)).heap.size = w.heap.size + 1 by simp] at this)
  have HB2 := Lib.hid (HB.out.alloc HB.out.size (.cells #[.int .i64 R, .int .i64 C, .slice A n ca] 28))
  have BX2 := Lib.hid (BX.out.alloc (.cells #[.int .i64 R, .int .i64 C, .slice A n ca] 28))
  have BG2 : Blk (((w.alloc (.cells #[.int .i64 R, .int .i64 C, .slice A n ca] 28)).alloc (.cells #[.int .i64 0, .int .i64 0, .slice none 0 0] 28)).alloc (.cells #[.int .i64 R, .int .i64 C, .slice A n ca] 28)) (w.heap.size + 1 + 1) 28 #[.int .i64 R, .int .i64 C, .slice A n ca] := by
    have := Blk.new ((w.alloc (.cells #[.int .i64 R, .int .i64 C, .slice A n ca] 28)).alloc (.cells #[.int .i64 0, .int .i64 0, .slice none 0 0] 28)) 28 #[.int .i64 R, .int .i64 C, .slice A n ca]
    rwa [show ((w.alloc (.cells #[.int .i64 R, .int .i64 C, .slice A n ca] 28)).alloc (.cells #[.int .i64 0, .int .i64 0, .slice none 0 0] 28)).heap.size = w.heap.size + 1 + 1 by simp] at this
  have HC2 := Lib.hid (hc _ _ HB2.out BG2)
  clear hL hc BG2 BA BX HB
  go_enter Tryz.func15, Tryz.ntmps15
  go_wp2_with fail
  generalize (((w.alloc (.cells #[.int .i64 R, .int .i64 C, .slice A n ca] 28)).alloc (.cells #[.int .i64 0, .int .i64 0, .slice none 0 0] 28)).alloc (.cells #[.int .i64 R, .int .i64 C, .slice A n ca] 28)) = V at *
  refine HC2.out.mono ?_
  rintro y w9 ⟨A9, n9, ca9, rfl, hn9, hA9, hF9, B9⟩
  clear HC2
  have BXt := Lib.hid ((BX2.out.kept (B9.block _ BX2.out.lt)).alloc (.cells #[.int .i64 r, .int .i64 c, .slice A9 n9 ca9] 28))
  have HBt := Lib.hid ((HB2.out.trans (B9.mono HB2.out.size)).alloc (Nat.le_trans HB2.out.size B9.size) (.cells #[.int .i64 r, .int .i64 c, .slice A9 n9 ca9] 28))
  have HN9 := Lib.hid hn9
  have HF9 := Lib.hid (show ∀ a, A9 = some a → w.heap.size + 1 < a.block from fun a e => Nat.lt_of_lt_of_le BX2.out.lt (hF9 a e))
  have HA9 := Lib.hid (manyR_put3 (hA9.next ((Below.refl _ w9).alloc (Nat.le_refl _) (.cells #[.int .i64 r, .int .i64 c, .slice A9 n9 ca9] 28))) (X := w.heap.size + 1) (fun a e => by have := HF9.out a e; omega) (.int .i64 r) (.int .i64 c) (.slice A9 n9 ca9))
  have HZ9 := Lib.hid (Blk.new w9 28 #[.int .i64 r, .int .i64 c, .slice A9 n9 ca9])
  clear B9 hn9 hA9 hF9 BX2 HB2
  have e0 := BXt.out.cell 0
  have e1 := BXt.out.cell 1
  have e2 := BXt.out.cell 2
  simp only [List.getElem?_toArray, List.getElem?_cons_zero, List.getElem?_cons_succ] at e0 e1 e2
  have f0 := BXt.out.frozen 0
  have f1 := BXt.out.frozen 1
  have f2 := BXt.out.frozen 2
  have lX := BXt.out.lt
  have z0 := HZ9.out.cell 0
  have z1 := HZ9.out.cell 1
  have z2 := HZ9.out.cell 2
  simp only [List.getElem?_toArray, List.getElem?_cons_zero, List.getElem?_cons_succ] at z0 z1 z2
  go_wp2_with fail
  change bodyPost _ _ _ _ _ (put3 (w9.alloc (.cells #[.int .i64 r, .int .i64 c, .slice A9 n9 ca9] 28)) (w.heap.size + 1) (.int .i64 r) (.int .i64 c) (.slice A9 n9 ca9))
  have bXt := Lib.hid (blk_put3 BXt.out (.int .i64 r) (.int .i64 c) (.slice A9 n9 ca9))
  have HBu := below_put3 HBt.out (Nat.le_succ _) (.int .i64 r) (.int .i64 c) (.slice A9 n9 ca9)
  generalize put3 (w9.alloc (.cells #[.int .i64 r, .int .i64 c, .slice A9 n9 ca9] 28)) (w.heap.size + 1) (.int .i64 r) (.int .i64 c) (.slice A9 n9 ca9) = W2 at *
  have d0 := bXt.out.cell 0
  have d1 := bXt.out.cell 1
  have d2 := bXt.out.cell 2
  simp only [List.getElem?_toArray, List.getElem?_cons_zero, List.getElem?_cons_succ] at d0 d1 d2
  exact bodyPost_ret (v := .agg #[.int .i64 r, .int .i64 c, .slice A9 n9 ca9]) (by simp [results, Tryz.f15, go_sem, d0, d1, d2]) rfl ⟨_, _, _, rfl, HN9.out, HA9.out, fun a e => by have := HF9.out a e; omega, HBu⟩
structure ArrR (w : World) (R C : Nat) (A : Option Addr) (n : Nat) (l : List Val) : Prop where
  many : ManyR Val.cs 6 w A l
  len : l.length = n
  le : n ≤ 4096
  fits : ∀ v ∈ l, FitsV v
  right : RightA R C l
theorem ArrR.next {w w' : World} {R C : Nat} {A : Option Addr} {n : Nat} {l : List Val} (h : ArrR w R C A n l) (hb : Below w.heap.size w w') : ArrR w' R C A n l := ⟨h.many.next hb, h.len, h.le, h.fits, h.right⟩
theorem ArrR.le2 {w : World} {R C : Nat} {A : Option Addr} {n : Nat} {l : List Val} (h : ArrR w R C A n l) : R ≤ 4096 ∧ C ≤ 4096 ∧ l ≠ [] := by
  have h1 := h.right.r1
  have h2 := h.right.c1
  have h3 := h.right.len
  have h4 := h.le
  have h5 := h.len
  have e : R * C = l.length := by exact_mod_cast h3
  have hR : R ≤ R * C := Nat.le_mul_of_pos_right R (by omega)
  have hC : C ≤ R * C := Nat.le_mul_of_pos_left C (by omega)
  refine ⟨by omega, by omega, fun e0 => ?_⟩
  rw [e0] at e
  simp at e
  omega
set_option maxRecDepth 100000 in
theorem askSum (R C : Nat) (A : Option Addr) (n ca bL : Nat) (l : List Val) (w : World) (hL : Blk w bL 31 #[]) (h : ArrR w R C A n l) (htab : PowT w) : Calls Tryz.prog 15 #[.string ⟨#[83, 85, 77]⟩, .agg #[.int .i64 R, .int .i64 C, .slice A n ca], .pointer (some ⟨bL, 0, none⟩)] w (RetA w 1 1 [sumA l]) := by
  refine ask_c ⟨#[83, 85, 77]⟩ R C A n ca bL w hL 1 1 [sumA l] fun W bG hb hG => ?_
  refine lib_m ⟨#[83, 85, 77]⟩ bG 1 1 1 [sumA l] W fun W2 hb2 => ?_
  have h2 := (h.next hb).next hb2
  have hG2 := hG.kept (hb2.block _ hG.lt)
  refine callSum_c bG R C A n ca 1 l W2 hG2 h2.many h2.len h2.le h2.fits h2.right 1 1 [sumA l] fun W3 x hb3 hx => ?_
  have h3 := h2.next hb3
  exact sumfn_c bG x R C A n ca 1 l W3 (hG2.kept (hb3.block _ hG2.lt)) hx h3.many h3.len h3.le h3.le2.2.2 (fun v hv => h3.right.all v hv) (((htab.next hb).next hb2).next hb3)
set_option maxRecDepth 100000 in
theorem askCount (R C : Nat) (A : Option Addr) (n ca bL : Nat) (l : List Val) (w : World) (hL : Blk w bL 31 #[]) (h : ArrR w R C A n l) (htab : PowT w) : Calls Tryz.prog 15 #[.string ⟨#[67, 79, 85, 78, 84]⟩, .agg #[.int .i64 R, .int .i64 C, .slice A n ca], .pointer (some ⟨bL, 0, none⟩)] w (RetA w 1 1 [countV (l.countP isNum)]) := by
  refine ask_c ⟨#[67, 79, 85, 78, 84]⟩ R C A n ca bL w hL 1 1 [countV (l.countP isNum)] fun W bG hb hG => ?_
  refine lib_m ⟨#[67, 79, 85, 78, 84]⟩ bG 1 1 1 [countV (l.countP isNum)] W fun W2 hb2 => ?_
  have h2 := (h.next hb).next hb2
  have hG2 := hG.kept (hb2.block _ hG.lt)
  refine callCount_c bG R C A n ca 1 l W2 hG2 h2.many h2.len h2.le h2.fits h2.right 1 1 [countV (l.countP isNum)] fun W3 x hb3 hx => ?_
  have h3 := h2.next hb3
  exact count_fn_c bG x R C A n ca 1 l W3 (hG2.kept (hb3.block _ hG2.lt)) hx h3.many h3.len h3.le h3.le2.2.2 (((htab.next hb).next hb2).next hb3)
set_option maxRecDepth 100000 in
theorem askCounta (R C : Nat) (A : Option Addr) (n ca bL : Nat) (l : List Val) (w : World) (hL : Blk w bL 31 #[]) (h : ArrR w R C A n l) (htab : PowT w) : Calls Tryz.prog 15 #[.string ⟨#[67, 79, 85, 78, 84, 65]⟩, .agg #[.int .i64 R, .int .i64 C, .slice A n ca], .pointer (some ⟨bL, 0, none⟩)] w (RetA w 1 1 [countV (l.countP isAny)]) := by
  refine ask_c ⟨#[67, 79, 85, 78, 84, 65]⟩ R C A n ca bL w hL 1 1 [countV (l.countP isAny)] fun W bG hb hG => ?_
  refine lib_m ⟨#[67, 79, 85, 78, 84, 65]⟩ bG 1 1 1 [countV (l.countP isAny)] W fun W2 hb2 => ?_
  have h2 := (h.next hb).next hb2
  have hG2 := hG.kept (hb2.block _ hG.lt)
  refine callCounta_c bG R C A n ca 1 l W2 hG2 h2.many h2.len h2.le h2.fits h2.right 1 1 [countV (l.countP isAny)] fun W3 x hb3 hx => ?_
  have h3 := h2.next hb3
  exact counta_fn_c bG x R C A n ca 1 l W3 (hG2.kept (hb3.block _ hG2.lt)) hx h3.many h3.len h3.le h3.le2.2.2 (((htab.next hb).next hb2).next hb3)
set_option maxRecDepth 100000 in
theorem askColumns (R C : Nat) (A : Option Addr) (n ca bL : Nat) (l : List Val) (w : World) (hL : Blk w bL 31 #[]) (h : ArrR w R C A n l) (htab : PowT w) : Calls Tryz.prog 15 #[.string ⟨#[67, 79, 76, 85, 77, 78, 83]⟩, .agg #[.int .i64 R, .int .i64 C, .slice A n ca], .pointer (some ⟨bL, 0, none⟩)] w (RetA w 1 1 [countV C]) := by
  letI : AM.Toks := AM.noToks
  refine ask_c ⟨#[67, 79, 76, 85, 77, 78, 83]⟩ R C A n ca bL w hL 1 1 [countV C] fun W bG hb hG => ?_
  refine lib_a ⟨#[67, 79, 76, 85, 77, 78, 83]⟩ bG 1 1 1 [countV C] W (fun W => AM.flat_calls AM.amP_ok.1 AM.none_fmath_COLUMNS rfl bG 1 (Nat.le_refl _) W) (fun W => AM.flat_calls AM.amP_ok.1 AM.none_ftext_COLUMNS rfl bG 1 (Nat.le_refl _) W) (fun W => AM.flat_calls AM.amP_ok.1 AM.none_flogic_COLUMNS rfl bG 1 (Nat.le_refl _) W) (fun W => AM.flat_calls AM.amP_ok.1 AM.none_flook_COLUMNS rfl bG 1 (Nat.le_refl _) W) fun W2 hb2 => ?_
  have h2 := (h.next hb).next hb2
  have hG2 := hG.kept (hb2.block _ hG.lt)
  refine callColumns_c bG R C A n ca 1 l W2 hG2 h2.many h2.len h2.le h2.fits h2.right 1 1 [countV C] fun W3 hb3 => ?_
  have h3 := h2.next hb3
  have hG3 := hG2.kept (hb3.block _ hG2.lt)
  exact columns_c bG R C A n ca 1 W3 hG3 h3.le2.2.1 (((htab.next hb).next hb2).next hb3)
set_option maxRecDepth 100000 in
theorem askRows (R C : Nat) (A : Option Addr) (n ca bL : Nat) (l : List Val) (w : World) (hL : Blk w bL 31 #[]) (h : ArrR w R C A n l) (htab : PowT w) : Calls Tryz.prog 15 #[.string ⟨#[82, 79, 87, 83]⟩, .agg #[.int .i64 R, .int .i64 C, .slice A n ca], .pointer (some ⟨bL, 0, none⟩)] w (RetA w 1 1 [countV R]) := by
  letI : AM.Toks := AM.noToks
  refine ask_c ⟨#[82, 79, 87, 83]⟩ R C A n ca bL w hL 1 1 [countV R] fun W bG hb hG => ?_
  refine lib_a ⟨#[82, 79, 87, 83]⟩ bG 1 1 1 [countV R] W (fun W => AM.flat_calls AM.amP_ok.1 AM.none_fmath_ROWS rfl bG 1 (Nat.le_refl _) W) (fun W => AM.flat_calls AM.amP_ok.1 AM.none_ftext_ROWS rfl bG 1 (Nat.le_refl _) W) (fun W => AM.flat_calls AM.amP_ok.1 AM.none_flogic_ROWS rfl bG 1 (Nat.le_refl _) W) (fun W => AM.flat_calls AM.amP_ok.1 AM.none_flook_ROWS rfl bG 1 (Nat.le_refl _) W) fun W2 hb2 => ?_
  have h2 := (h.next hb).next hb2
  have hG2 := hG.kept (hb2.block _ hG.lt)
  refine callRows_c bG R C A n ca 1 l W2 hG2 h2.many h2.len h2.le h2.fits h2.right 1 1 [countV R] fun W3 hb3 => ?_
  have h3 := h2.next hb3
  have hG3 := hG2.kept (hb3.block _ hG2.lt)
  exact rows_c bG R C A n ca 1 W3 hG3 h3.le2.1 (((htab.next hb).next hb2).next hb3)
set_option maxRecDepth 100000 in
theorem askTocol (R C : Nat) (A : Option Addr) (n ca bL : Nat) (l : List Val) (w : World) (hL : Blk w bL 31 #[]) (h : ArrR w R C A n l) (htab : PowT w) : Calls Tryz.prog 15 #[.string ⟨#[84, 79, 67, 79, 76]⟩, .agg #[.int .i64 R, .int .i64 C, .slice A n ca], .pointer (some ⟨bL, 0, none⟩)] w (RetA w n 1 l) := by
  letI : AM.Toks := AM.noToks
  refine ask_c ⟨#[84, 79, 67, 79, 76]⟩ R C A n ca bL w hL n 1 l fun W bG hb hG => ?_
  refine lib_a ⟨#[84, 79, 67, 79, 76]⟩ bG 1 n 1 l W (fun W => AM.flat_calls AM.amP_ok.1 AM.none_fmath_TOCOL rfl bG 1 (Nat.le_refl _) W) (fun W => AM.flat_calls AM.amP_ok.1 AM.none_ftext_TOCOL rfl bG 1 (Nat.le_refl _) W) (fun W => AM.flat_calls AM.amP_ok.1 AM.none_flogic_TOCOL rfl bG 1 (Nat.le_refl _) W) (fun W => AM.flat_calls AM.amP_ok.1 AM.none_flook_TOCOL rfl bG 1 (Nat.le_refl _) W) fun W2 hb2 => ?_
  have h2 := (h.next hb).next hb2
  have hG2 := hG.kept (hb2.block _ hG.lt)
  refine callTocol_c bG R C A n ca 1 l W2 hG2 h2.many h2.len h2.le h2.fits h2.right n 1 l fun W3 hb3 => ?_
  have h3 := h2.next hb3
  have hG3 := hG2.kept (hb3.block _ hG2.lt)
  exact tocol_c bG R C A n ca 1 l W3 hG3 h3.many h3.len h3.le h3.le2.2.2
set_option maxRecDepth 100000 in
theorem askTorow (R C : Nat) (A : Option Addr) (n ca bL : Nat) (l : List Val) (w : World) (hL : Blk w bL 31 #[]) (h : ArrR w R C A n l) (htab : PowT w) : Calls Tryz.prog 15 #[.string ⟨#[84, 79, 82, 79, 87]⟩, .agg #[.int .i64 R, .int .i64 C, .slice A n ca], .pointer (some ⟨bL, 0, none⟩)] w (RetA w 1 n l) := by
  letI : AM.Toks := AM.noToks
  refine ask_c ⟨#[84, 79, 82, 79, 87]⟩ R C A n ca bL w hL 1 n l fun W bG hb hG => ?_
  refine lib_a ⟨#[84, 79, 82, 79, 87]⟩ bG 1 1 n l W (fun W => AM.flat_calls AM.amP_ok.1 AM.none_fmath_TOROW rfl bG 1 (Nat.le_refl _) W) (fun W => AM.flat_calls AM.amP_ok.1 AM.none_ftext_TOROW rfl bG 1 (Nat.le_refl _) W) (fun W => AM.flat_calls AM.amP_ok.1 AM.none_flogic_TOROW rfl bG 1 (Nat.le_refl _) W) (fun W => AM.flat_calls AM.amP_ok.1 AM.none_flook_TOROW rfl bG 1 (Nat.le_refl _) W) fun W2 hb2 => ?_
  have h2 := (h.next hb).next hb2
  have hG2 := hG.kept (hb2.block _ hG.lt)
  refine callTorow_c bG R C A n ca 1 l W2 hG2 h2.many h2.len h2.le h2.fits h2.right 1 n l fun W3 hb3 => ?_
  have h3 := h2.next hb3
  have hG3 := hG2.kept (hb3.block _ hG2.lt)
  exact torow_c bG R C A n ca 1 l W3 hG3 h3.many h3.len h3.le h3.le2.2.2
set_option maxRecDepth 100000 in
theorem askTranspose (R C : Nat) (A : Option Addr) (n ca bL : Nat) (l : List Val) (w : World) (hL : Blk w bL 31 #[]) (h : ArrR w R C A n l) (htab : PowT w) : Calls Tryz.prog 15 #[.string ⟨#[84, 82, 65, 78, 83, 80, 79, 83, 69]⟩, .agg #[.int .i64 R, .int .i64 C, .slice A n ca], .pointer (some ⟨bL, 0, none⟩)] w (RetA w C R (turnL R C l)) := by
  letI : AM.Toks := AM.noToks
  refine ask_c ⟨#[84, 82, 65, 78, 83, 80, 79, 83, 69]⟩ R C A n ca bL w hL C R (turnL R C l) fun W bG hb hG => ?_
  refine lib_a ⟨#[84, 82, 65, 78, 83, 80, 79, 83, 69]⟩ bG 1 C R (turnL R C l) W (fun W => AM.flat_calls AM.amP_ok.1 AM.none_fmath_TRANSPOSE rfl bG 1 (Nat.le_refl _) W) (fun W => AM.flat_calls AM.amP_ok.1 AM.none_ftext_TRANSPOSE rfl bG 1 (Nat.le_refl _) W) (fun W => AM.flat_calls AM.amP_ok.1 AM.none_flogic_TRANSPOSE rfl bG 1 (Nat.le_refl _) W) (fun W => AM.flat_calls AM.amP_ok.1 AM.none_flook_TRANSPOSE rfl bG 1 (Nat.le_refl _) W) fun W2 hb2 => ?_
  have h2 := (h.next hb).next hb2
  have hG2 := hG.kept (hb2.block _ hG.lt)
  refine callTranspose_c bG R C A n ca 1 l W2 hG2 h2.many h2.len h2.le h2.fits h2.right C R (turnL R C l) fun W3 hb3 => ?_
  have h3 := h2.next hb3
  have hG3 := hG2.kept (hb3.block _ hG2.lt)
  exact transpose_c bG R C A n ca 1 l W3 hG3 h3.many h3.len h3.le h3.fits h3.right
end Go.Proofs.YtdmbppgogdkpdaaGreatDoor
namespace Go.Proofs.YtdmbppgogdkpdaaGreatDoor
theorem turnL_twice (R C : Nat) (l : List Val) (h : l.length = R * C) : turnL C R (turnL R C l) = l := by
  apply List.ext_getElem
  · rw [turnL_len, h]
  · intro k h1 h2
    rw [h] at h2
    have hC : 0 < C := by
      rcases Nat.eq_zero_or_pos C with e | e
      · subst e; simp at h2
      · exact e
    have hm : k % C < C := Nat.mod_lt _ hC
    have hd : k / C < R := Nat.div_lt_of_lt_mul (by rw [Nat.mul_comm]; exact h2)
    have hk : k / C * C + k % C = k := Nat.div_add_mod' k C
    have e1 : k / C * C + k % C < (turnL C R (turnL R C l)).length := by rw [hk]; exact h1
    have a1 := turnL_get C R (turnL R C l) (k / C) (k % C) hd hm e1
    have lt : k % C * R + k / C < C * R := by
      have : (k % C + 1) * R ≤ C * R := Nat.mul_le_mul_right R hm
      rw [Nat.succ_mul] at this
      omega
    have lt2 : k % C * R + k / C < (turnL R C l).length := by rw [turnL_len]; exact lt
    have a2 := turnL_get R C l (k % C) (k / C) hm hd lt2
    simp only [hk] at a1
    rw [a1, List.getD_eq_getElem?_getD, List.getElem?_eq_getElem lt2, Option.getD_some, a2, hk, List.getD_eq_getElem?_getD, List.getElem?_eq_getElem (by rw [h]; exact h2), Option.getD_some]
def sig (R C k : Nat) : Nat := k % R * C + k / R
theorem sig_lt {R C k : Nat} (hk : k < C * R) : sig R C k < R * C := by
  have hR : 0 < R := by
    rcases Nat.eq_zero_or_pos R with e | e
    · subst e; simp at hk
    · exact e
  have hm : k % R < R := Nat.mod_lt _ hR
  have hd : k / R < C := Nat.div_lt_of_lt_mul (by rw [Nat.mul_comm]; exact hk)
  unfold sig
  have : (k % R + 1) * C ≤ R * C := Nat.mul_le_mul_right C hm
  rw [Nat.succ_mul] at this
  omega
theorem sig_sig {R C k : Nat} (hk : k < C * R) : sig C R (sig R C k) = k := by
  have hR : 0 < R := by
    rcases Nat.eq_zero_or_pos R with e | e
    · subst e; simp at hk
    · exact e
  have hd : k / R < C := Nat.div_lt_of_lt_mul (by rw [Nat.mul_comm]; exact hk)
  have hC : 0 < C := Nat.lt_of_le_of_lt (Nat.zero_le _) hd
  unfold sig
  rw [show k % R * C + k / R = k / R + C * (k % R) by rw [Nat.mul_comm, Nat.add_comm], Nat.add_mul_mod_self_left, Nat.mod_eq_of_lt hd, Nat.add_mul_div_left _ _ hC, Nat.div_eq_of_lt hd, Nat.zero_add]
  exact Nat.div_add_mod' k R
theorem sig_perm (R C : Nat) : ((List.range (C * R)).map (sig R C)).Perm (List.range (R * C)) := by
  have e : C * R = R * C := Nat.mul_comm C R
  have hback : ((List.range (C * R)).map (sig R C)).map (sig C R) = List.range (C * R) := by
    rw [List.map_map]
    conv => rhs; rw [← List.map_id (List.range (C * R))]
    apply List.map_congr_left
    intro k hk
    exact sig_sig (List.mem_range.1 hk)
  have nd : ((List.range (C * R)).map (sig R C)).Nodup := by
    have h1 : (((List.range (C * R)).map (sig R C)).map (sig C R)).Nodup := by rw [hback]; exact List.nodup_range
    exact List.Pairwise.of_map (sig C R) (fun a b h e => h (by rw [e])) h1
  rw [List.perm_iff_count]
  intro a
  rw [nd.count, List.nodup_range.count]
  have hm : a ∈ (List.range (C * R)).map (sig R C) ↔ a ∈ List.range (R * C) := by
    rw [List.mem_map, List.mem_range]
    constructor
    · rintro ⟨k, hk, rfl⟩
      exact sig_lt (List.mem_range.1 hk)
    · intro ha
      exact ⟨sig C R a, List.mem_range.2 (sig_lt ha), sig_sig ha⟩
  simp only [hm]
theorem turnL_perm (R C : Nat) (l : List Val) (h : l.length = R * C) : (turnL R C l).Perm l := by
  have h1 : turnL R C l = ((List.range (C * R)).map (sig R C)).map (fun k => l.getD k zeroV) := by
    unfold turnL
    rw [List.map_map]
    rfl
  have h2 : l = (List.range (R * C)).map (fun k => l.getD k zeroV) := by
    apply List.ext_getElem
    · simp [h]
    · intro i a b
      simp [List.getD_eq_getElem?_getD, List.getElem?_eq_getElem a]
  rw [h1]
  conv => rhs; rw [h2]
  exact (sig_perm R C).map _
theorem turnL_count (R C : Nat) (l : List Val) (h : l.length = R * C) (p : Val → Bool) : (turnL R C l).countP p = l.countP p := (turnL_perm R C l h).countP_eq p
end Go.Proofs.YtdmbppgogdkpdaaGreatDoor
namespace Go.Proofs.YtdmbppgogdkpdaaGreatDoor
open Go.RowKit
namespace AM
theorem tells_P : (letI : Toks := noToks; tells ((am Tryz.prog (envOf Tryz.prog [] []) (eqsOf [39, 41]) 1000 [] 60).1 7 [] (tabsH []))) = true := by kernel_rfl
theorem awake7 (w : World) : Calls Tryz.prog 7 #[] w fun e w' => e = .returned (.bool true) ∧ Below w.heap.size w w' := by
  letI : Toks := noToks
  exact am_tells small_P exts_P ids_P eqs_P mixed_P (ts := []) (by rfl) tells_P w (fun x hx => by simp at hx)
end AM
end Go.Proofs.YtdmbppgogdkpdaaGreatDoor
namespace Go.Proofs.YtdmbppgogdkpdaaGreatDoor
open Go.RowKit
theorem turnL_row (n : Nat) (l : List Val) (h : l.length = n) : turnL 1 n l = l := by
  unfold turnL
  apply List.ext_getElem
  · simp [h]
  · intro i a b
    simp [Nat.mod_one, List.getD_eq_getElem?_getD, List.getElem?_eq_getElem b]
theorem arr_turn {w : World} {R C : Nat} {A B : Option Addr} {n n' : Nat} {l : List Val} {w' : World} (h : ArrR w R C A n l) (hm : ManyR Val.cs 6 w' B (turnL R C l)) (hn : (turnL R C l).length = n') : ArrR w' C R B n' (turnL R C l) := by
  have h3 := h.right.len
  have e : l.length = R * C := by exact_mod_cast h3.symm
  have hp := turnL_perm R C l e
  have hl := hp.length_eq
  have h4 := h.le
  have h5 := h.len
  exact ⟨hm, hn, by omega, fun v hv => h.fits v (hp.mem_iff.1 hv), ⟨h.right.c1, h.right.r1, by rw [hl, e]; push_cast; rw [Int.mul_comm], fun v hv => h.right.all v (hp.mem_iff.1 hv)⟩⟩
theorem arr_col {w : World} {R C : Nat} {A B : Option Addr} {n n' : Nat} {l : List Val} {w' : World} (h : ArrR w R C A n l) (hm : ManyR Val.cs 6 w' B l) (hn : l.length = n') : ArrR w' n 1 B n' l := by
  have h5 := h.len
  have hne := h.le2.2.2
  have hpos : 0 < l.length := List.length_pos_iff.2 hne
  exact ⟨hm, hn, by have := h.le; omega, h.fits, ⟨by omega, by omega, by rw [h5]; omega, h.right.all⟩⟩
theorem arr_row {w : World} {R C : Nat} {A B : Option Addr} {n n' : Nat} {l : List Val} {w' : World} (h : ArrR w R C A n l) (hm : ManyR Val.cs 6 w' B l) (hn : l.length = n') : ArrR w' 1 n B n' l := by
  have h5 := h.len
  have hne := h.le2.2.2
  have hpos : 0 < l.length := List.length_pos_iff.2 hne
  exact ⟨hm, hn, by have := h.le; omega, h.fits, ⟨by omega, by omega, by rw [h5]; omega, h.right.all⟩⟩
end Go.Proofs.YtdmbppgogdkpdaaGreatDoor
