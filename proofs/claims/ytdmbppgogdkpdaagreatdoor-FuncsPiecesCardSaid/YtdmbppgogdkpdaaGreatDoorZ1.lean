/-
  What oper's table of signs and ftext's table of functions hold for the names that the law asks; none_..: fmath does not know ftext's names (reckoned by the abstract machine). No condition.
  oper.Binary at - and *: its contract. Condition: both arrays may be; what the sign tells of each two values is said, and may be.
-/
import Derived.Test.YtdmbppgogdkpdaaGreatDoorVN
import Derived.Test.YtdmbppgogdkpdaaGreatDoorY9
set_option linter.unusedSectionVars false
namespace Go.Proofs.YtdmbppgogdkpdaaGreatDoor
open Go.RowKit
namespace AM
variable [Toks]
def signQ : List (ByteArray × Value × List (Nat × List Value)) := [
  (⟨#[45]⟩, .tuple #[.agg #[.func (.func 102) #[] #[.pointer (some ⟨18, 0, none⟩)]], .bool true], [(18, [.func (.func 63) #[] #[]])]),
  (⟨#[42]⟩, .tuple #[.agg #[.func (.func 102) #[] #[.pointer (some ⟨19, 0, none⟩)]], .bool true], [(19, [.func (.func 64) #[] #[]])])]
theorem signs_T : (match (amP Tryz.prog).1 38 [] (tabsH []) with | some outs => outs.all fun p => asksB (envP Tryz.prog) eqP 67 signQ p.1 p.2 | none => false) = true := by kernel_rfl
def textQ : List (ByteArray × Value × List (Nat × List Value)) := [
  (⟨#[76, 69, 78]⟩, .tuple #[.agg #[.int .i64 1, .int .i64 1, .func (.func 264) #[] #[.pointer (some ⟨18, 0, none⟩), .pointer (some ⟨19, 0, none⟩)]], .bool true],
    [(17, [.func (.func 169) #[] #[]]), (18, [.func (.func 168) #[] #[]]), (19, [.slice (some ⟨17, 0, none⟩) 1 1])]),
  (⟨#[83, 85, 66, 83, 84, 73, 84, 85, 84, 69]⟩, .tuple #[.agg #[.int .i64 3, .int .i64 4, .func (.func 264) #[] #[.pointer (some ⟨42, 0, none⟩), .pointer (some ⟨43, 0, none⟩)]], .bool true],
    [(41, [.func (.func 169) #[] #[], .func (.func 169) #[] #[], .func (.func 169) #[] #[], .func (.func 171) #[] #[]]), (42, [.func (.func 178) #[] #[]]), (43, [.slice (some ⟨41, 0, none⟩) 4 4])]),
  (⟨#[84, 69, 88, 84, 83, 80, 76, 73, 84]⟩, .tuple #[.agg #[.int .i64 2, .int .i64 2, .func (.func 185) #[] #[]], .bool true], [])]
theorem text_T : (match (amP Tryz.prog).1 90 [] (tabsH []) with | some outs => outs.all fun p => asksB (envP Tryz.prog) eqP 96 textQ p.1 p.2 | none => false) = true := by kernel_rfl
end AM
def SignBox (w : World) (x : Nat) (g : FuncId) : Prop := w.cell? ⟨x, 0, none⟩ = some (.func (.func g) #[] #[]) ∧ x < w.heap.size
set_option maxRecDepth 100000 in
theorem signSub_c (W : World) : Calls Tryz.prog 38 #[] W fun e w' => ∃ v x, e = .returned v ∧ Below W.heap.size W w' ∧ SignBox w' x 63 ∧ ∀ V, Below w'.heap.size w' V → (Instr.lookup 67 v (.string ⟨#[45]⟩) true).run Tryz.prog V = .ok (.tuple #[.agg #[.func (.func 102) #[] #[.pointer (some ⟨x, 0, none⟩)]], .bool true]) V := by
  letI : AM.Toks := AM.noToks
  refine (AM.table_calls AM.amP_ok.1 AM.envP_ok AM.eqP_ok AM.signs_T W).mono ?_
  rintro e w' ⟨v, x, rfl, hb, h⟩
  obtain ⟨⟨⟨_, h2, h3⟩, _⟩, h4⟩ := h _ (List.Mem.head _)
  exact ⟨v, x 18, rfl, hb, ⟨h3 0 _ rfl, h2⟩, h4⟩
set_option maxRecDepth 100000 in
theorem signMul_c (W : World) : Calls Tryz.prog 38 #[] W fun e w' => ∃ v x, e = .returned v ∧ Below W.heap.size W w' ∧ SignBox w' x 64 ∧ ∀ V, Below w'.heap.size w' V → (Instr.lookup 67 v (.string ⟨#[42]⟩) true).run Tryz.prog V = .ok (.tuple #[.agg #[.func (.func 102) #[] #[.pointer (some ⟨x, 0, none⟩)]], .bool true]) V := by
  letI : AM.Toks := AM.noToks
  refine (AM.table_calls AM.amP_ok.1 AM.envP_ok AM.eqP_ok AM.signs_T W).mono ?_
  rintro e w' ⟨v, x, rfl, hb, h⟩
  obtain ⟨⟨⟨_, h2, h3⟩, _⟩, h4⟩ := h _ (List.Mem.tail _ (List.Mem.head _))
  exact ⟨v, x 19, rfl, hb, ⟨h3 0 _ rfl, h2⟩, h4⟩
end Go.Proofs.YtdmbppgogdkpdaaGreatDoor
namespace Go.Proofs.YtdmbppgogdkpdaaGreatDoor
open Go.RowKit
theorem SignBox.next {w w' : World} {x : Nat} {g : FuncId} (h : SignBox w x g) (b : Below w.heap.size w w') : SignBox w' x g := ⟨(b.cell (p := ⟨x, 0, none⟩) h.2).trans h.1, Nat.lt_of_lt_of_le h.2 b.size⟩
def BinP (w : World) (g : Val → Val → Val) (R C : Nat) (l : List Val) (R' C' : Nat) (l' : List Val) (e : Ending) (w' : World) : Prop :=
  if fitsB (max R R') (max C C') then CallA w (max R R' : Nat) (max C C' : Nat) (bothL (max R R') (max C C') g R C l R' C' l') e w' else CallA w 1 1 [badV 5] e w'
set_option maxRecDepth 100000 in
set_option maxHeartbeats 4000000 in
theorem binSub_c (R C R' C' : Nat) (A A' : Option Addr) (n ca n' ca' : Nat) (l l' : List Val) (w : World) (h : ArrR w R C A n l) (h' : ArrR w R' C' A' n' l') (g : Val → Val → Val) (hg : ∀ W x, Below w.heap.size w W → SignBox W x 63 → FnIs W 102 #[.pointer (some ⟨x, 0, none⟩)] g l l') :
    Calls Tryz.prog 21 #[.string ⟨#[45]⟩, .agg #[.int .i64 R, .int .i64 C, .slice A n ca], .agg #[.int .i64 R', .int .i64 C', .slice A' n' ca']] w (BinP w g R C l R' C' l') := by
  have HBO := Lib.hid (fun W x (hW : Below w.heap.size w W) (hx : SignBox W x 63) => bothReck_c x R C R' C' A A' n ca n' ca' l l' W (h.next hW) (h'.next hW) g (hg W x hW hx))
  have HS := Lib.hid (fun W => signSub_c W)
  have B0 := Lib.hid (Bxs.start w [(28, #[.int .i64 R, .int .i64 C, .slice A n ca]), (28, #[.int .i64 R', .int .i64 C', .slice A' n' ca']), (28, #[.int .i64 0, .int .i64 0, .slice none 0 0])])
  simp only [allocAll] at B0
  unfold BinP
  unfold BothP at HBO
  clear h h' hg
  generalize max R R' = M at *
  generalize max C C' = N at *
  cases hfit : fitsB M N with
  | false =>
    simp only [hfit, Bool.false_eq_true, if_false] at HBO ⊢
    go_enter Tryz.func21, Tryz.ntmps21
    go_wp2_with fail
    refine (HS.out _).mono ?_
    rintro z w1 ⟨mv, x, rfl, hb, hx, hlook⟩
    have hrun := hlook w1 (Below.refl _ _)
    have B1 := Lib.hid (B0.out.next hb)
    have hal := (Below.refl _ w1).alloc (Nat.le_refl _) (.cells #[.func (.func 102) #[] #[.pointer (some ⟨x, 0, none⟩)]] 65)
    have B3 := Lib.hid (B1.out.next hal)
    have X3 := Lib.hid (hx.next hal)
    have BF3 := Lib.hid (Blk.new w1 65 #[.func (.func 102) #[] #[.pointer (some ⟨x, 0, none⟩)]])
    clear hb B0 hx hlook hal B1
    have c3 := BF3.out.cell 0
    simp only [List.getElem?_toArray, List.getElem?_cons_zero] at c3
    have a0 := ((show Blk _ w.heap.size _ _ from B3.out.box 0 _ _ rfl)).cell 0
    have a1 := ((show Blk _ w.heap.size _ _ from B3.out.box 0 _ _ rfl)).cell 1
    have a2 := ((show Blk _ w.heap.size _ _ from B3.out.box 0 _ _ rfl)).cell 2
    simp only [List.getElem?_toArray, List.getElem?_cons_zero, List.getElem?_cons_succ] at a0 a1 a2
    have b0 := ((show Blk _ (w.heap.size + 1) _ _ from B3.out.box 1 _ _ rfl)).cell 0
    have b1 := ((show Blk _ (w.heap.size + 1) _ _ from B3.out.box 1 _ _ rfl)).cell 1
    have b2 := ((show Blk _ (w.heap.size + 1) _ _ from B3.out.box 1 _ _ rfl)).cell 2
    simp only [List.getElem?_toArray, List.getElem?_cons_zero, List.getElem?_cons_succ] at b0 b1 b2
    go_wp2_with (refine wpList_store_row rfl 65 _ _ rfl w1.heap.size #[.func (.func 102) #[] #[.pointer (some ⟨x, 0, none⟩)]] rfl rfl 65 #[.nilFunc] (new_lies w1 _) (by kernel_rfl) rfl (by simp [Value.oneCell']) ?_; rw [World.setRow_alloc_new])
    clear hrun a0 a1 a2 b0 b1 b2 c3
    generalize w1.alloc (.cells #[.func (.func 102) #[] #[.pointer (some ⟨x, 0, none⟩)]] 65) = V3 at *
    refine (HBO.out V3 x B3.out.below X3.out).mono ?_
    rintro y w9 ⟨A9, n9, ca9, rfl, hn9, hA9, hF9, B9⟩
    have B4 := Lib.hid (B3.out.next B9)
    have BXt := Lib.hid (show Blk w9 (w.heap.size + 1 + 1) 28 #[.int .i64 0, .int .i64 0, .slice none 0 0] from B4.out.box 2 _ _ rfl)
    have HF9 := Lib.hid (show ∀ a, A9 = some a → w.heap.size + 1 + 1 < a.block from fun a e => Nat.lt_of_lt_of_le (show w.heap.size + 1 + 1 < V3.heap.size from (B3.out.box 2 _ _ rfl).lt) (hF9 a e))
    have HBt := Lib.hid B4.out.below
    have HN9 := Lib.hid hn9
    have HA9 := Lib.hid (manyR_put3 hA9 (X := w.heap.size + 1 + 1) (fun a e => by have := HF9.out a e; omega) (.int .i64 1) (.int .i64 1) (.slice A9 n9 ca9))
    clear B9 hn9 hA9 hF9 B3 B4
    have e0 := BXt.out.cell 0
    have e1 := BXt.out.cell 1
    have e2 := BXt.out.cell 2
    simp only [List.getElem?_toArray, List.getElem?_cons_zero, List.getElem?_cons_succ] at e0 e1 e2
    have f0 := BXt.out.frozen 0
    have f1 := BXt.out.frozen 1
    have f2 := BXt.out.frozen 2
    have lX := BXt.out.lt
    go_wp2_with fail
    change bodyPost _ _ _ _ _ (put3 w9 (w.heap.size + 1 + 1) (.int .i64 1) (.int .i64 1) (.slice A9 n9 ca9))
    have bXt := Lib.hid (blk_put3 BXt.out (.int .i64 1) (.int .i64 1) (.slice A9 n9 ca9))
    have HBu := below_put3 HBt.out (Nat.le_trans (Nat.le_succ _) (Nat.le_succ _)) (.int .i64 1) (.int .i64 1) (.slice A9 n9 ca9)
    generalize put3 w9 (w.heap.size + 1 + 1) (.int .i64 1) (.int .i64 1) (.slice A9 n9 ca9) = W2 at *
    have d0 := bXt.out.cell 0
    have d1 := bXt.out.cell 1
    have d2 := bXt.out.cell 2
    simp only [List.getElem?_toArray, List.getElem?_cons_zero, List.getElem?_cons_succ] at d0 d1 d2
    exact bodyPost_ret (v := .tuple #[.agg #[.int .i64 1, .int .i64 1, .slice A9 n9 ca9], .bool true]) (by simp [results, Tryz.f21, go_sem, d0, d1, d2]) rfl ⟨_, _, _, rfl, HN9.out, HA9.out, fun a e => by have := HF9.out a e; omega, HBu⟩
  | true =>
    simp only [hfit, if_true] at HBO ⊢
    go_enter Tryz.func21, Tryz.ntmps21
    go_wp2_with fail
    refine (HS.out _).mono ?_
    rintro z w1 ⟨mv, x, rfl, hb, hx, hlook⟩
    have hrun := hlook w1 (Below.refl _ _)
    have B1 := Lib.hid (B0.out.next hb)
    have hal := (Below.refl _ w1).alloc (Nat.le_refl _) (.cells #[.func (.func 102) #[] #[.pointer (some ⟨x, 0, none⟩)]] 65)
    have B3 := Lib.hid (B1.out.next hal)
    have X3 := Lib.hid (hx.next hal)
    have BF3 := Lib.hid (Blk.new w1 65 #[.func (.func 102) #[] #[.pointer (some ⟨x, 0, none⟩)]])
    clear hb B0 hx hlook hal B1
    have c3 := BF3.out.cell 0
    simp only [List.getElem?_toArray, List.getElem?_cons_zero] at c3
    have a0 := ((show Blk _ w.heap.size _ _ from B3.out.box 0 _ _ rfl)).cell 0
    have a1 := ((show Blk _ w.heap.size _ _ from B3.out.box 0 _ _ rfl)).cell 1
    have a2 := ((show Blk _ w.heap.size _ _ from B3.out.box 0 _ _ rfl)).cell 2
    simp only [List.getElem?_toArray, List.getElem?_cons_zero, List.getElem?_cons_succ] at a0 a1 a2
    have b0 := ((show Blk _ (w.heap.size + 1) _ _ from B3.out.box 1 _ _ rfl)).cell 0
    have b1 := ((show Blk _ (w.heap.size + 1) _ _ from B3.out.box 1 _ _ rfl)).cell 1
    have b2 := ((show Blk _ (w.heap.size + 1) _ _ from B3.out.box 1 _ _ rfl)).cell 2
    simp only [List.getElem?_toArray, List.getElem?_cons_zero, List.getElem?_cons_succ] at b0 b1 b2
    go_wp2_with (refine wpList_store_row rfl 65 _ _ rfl w1.heap.size #[.func (.func 102) #[] #[.pointer (some ⟨x, 0, none⟩)]] rfl rfl 65 #[.nilFunc] (new_lies w1 _) (by kernel_rfl) rfl (by simp [Value.oneCell']) ?_; rw [World.setRow_alloc_new])
    clear hrun a0 a1 a2 b0 b1 b2 c3
    generalize w1.alloc (.cells #[.func (.func 102) #[] #[.pointer (some ⟨x, 0, none⟩)]] 65) = V3 at *
    refine (HBO.out V3 x B3.out.below X3.out).mono ?_
    rintro y w9 ⟨A9, n9, ca9, rfl, hn9, hA9, hF9, B9⟩
    have B4 := Lib.hid (B3.out.next B9)
    have BXt := Lib.hid (show Blk w9 (w.heap.size + 1 + 1) 28 #[.int .i64 0, .int .i64 0, .slice none 0 0] from B4.out.box 2 _ _ rfl)
    have HF9 := Lib.hid (show ∀ a, A9 = some a → w.heap.size + 1 + 1 < a.block from fun a e => Nat.lt_of_lt_of_le (show w.heap.size + 1 + 1 < V3.heap.size from (B3.out.box 2 _ _ rfl).lt) (hF9 a e))
    have HBt := Lib.hid B4.out.below
    have HN9 := Lib.hid hn9
    have HA9 := Lib.hid (manyR_put3 hA9 (X := w.heap.size + 1 + 1) (fun a e => by have := HF9.out a e; omega) (.int .i64 (M : Int)) (.int .i64 (N : Int)) (.slice A9 n9 ca9))
    clear B9 hn9 hA9 hF9 B3 B4
    have e0 := BXt.out.cell 0
    have e1 := BXt.out.cell 1
    have e2 := BXt.out.cell 2
    simp only [List.getElem?_toArray, List.getElem?_cons_zero, List.getElem?_cons_succ] at e0 e1 e2
    have f0 := BXt.out.frozen 0
    have f1 := BXt.out.frozen 1
    have f2 := BXt.out.frozen 2
    have lX := BXt.out.lt
    go_wp2_with fail
    change bodyPost _ _ _ _ _ (put3 w9 (w.heap.size + 1 + 1) (.int .i64 (M : Int)) (.int .i64 (N : Int)) (.slice A9 n9 ca9))
    have bXt := Lib.hid (blk_put3 BXt.out (.int .i64 (M : Int)) (.int .i64 (N : Int)) (.slice A9 n9 ca9))
    have HBu := below_put3 HBt.out (Nat.le_trans (Nat.le_succ _) (Nat.le_succ _)) (.int .i64 (M : Int)) (.int .i64 (N : Int)) (.slice A9 n9 ca9)
    generalize put3 w9 (w.heap.size + 1 + 1) (.int .i64 (M : Int)) (.int .i64 (N : Int)) (.slice A9 n9 ca9) = W2 at *
    have d0 := bXt.out.cell 0
    have d1 := bXt.out.cell 1
    have d2 := bXt.out.cell 2
    simp only [List.getElem?_toArray, List.getElem?_cons_zero, List.getElem?_cons_succ] at d0 d1 d2
    exact bodyPost_ret (v := .tuple #[.agg #[.int .i64 (M : Int), .int .i64 (N : Int), .slice A9 n9 ca9], .bool true]) (by simp [results, Tryz.f21, go_sem, d0, d1, d2]) rfl ⟨_, _, _, rfl, HN9.out, HA9.out, fun a e => by have := HF9.out a e; omega, HBu⟩
set_option maxRecDepth 100000 in
set_option maxHeartbeats 4000000 in
theorem binMul_c (R C R' C' : Nat) (A A' : Option Addr) (n ca n' ca' : Nat) (l l' : List Val) (w : World) (h : ArrR w R C A n l) (h' : ArrR w R' C' A' n' l') (g : Val → Val → Val) (hg : ∀ W x, Below w.heap.size w W → SignBox W x 64 → FnIs W 102 #[.pointer (some ⟨x, 0, none⟩)] g l l') :
    Calls Tryz.prog 21 #[.string ⟨#[42]⟩, .agg #[.int .i64 R, .int .i64 C, .slice A n ca], .agg #[.int .i64 R', .int .i64 C', .slice A' n' ca']] w (BinP w g R C l R' C' l') := by
  have HBO := Lib.hid (fun W x (hW : Below w.heap.size w W) (hx : SignBox W x 64) => bothReck_c x R C R' C' A A' n ca n' ca' l l' W (h.next hW) (h'.next hW) g (hg W x hW hx))
  have HS := Lib.hid (fun W => signMul_c W)
  have B0 := Lib.hid (Bxs.start w [(28, #[.int .i64 R, .int .i64 C, .slice A n ca]), (28, #[.int .i64 R', .int .i64 C', .slice A' n' ca']), (28, #[.int .i64 0, .int .i64 0, .slice none 0 0])])
  simp only [allocAll] at B0
  unfold BinP
  unfold BothP at HBO
  clear h h' hg
  generalize max R R' = M at *
  generalize max C C' = N at *
  cases hfit : fitsB M N with
  | false =>
    simp only [hfit, Bool.false_eq_true, if_false] at HBO ⊢
    go_enter Tryz.func21, Tryz.ntmps21
    go_wp2_with fail
    refine (HS.out _).mono ?_
    rintro z w1 ⟨mv, x, rfl, hb, hx, hlook⟩
    have hrun := hlook w1 (Below.refl _ _)
    have B1 := Lib.hid (B0.out.next hb)
    have hal := (Below.refl _ w1).alloc (Nat.le_refl _) (.cells #[.func (.func 102) #[] #[.pointer (some ⟨x, 0, none⟩)]] 65)
    have B3 := Lib.hid (B1.out.next hal)
    have X3 := Lib.hid (hx.next hal)
    have BF3 := Lib.hid (Blk.new w1 65 #[.func (.func 102) #[] #[.pointer (some ⟨x, 0, none⟩)]])
    clear hb B0 hx hlook hal B1
    have c3 := BF3.out.cell 0
    simp only [List.getElem?_toArray, List.getElem?_cons_zero] at c3
    have a0 := ((show Blk _ w.heap.size _ _ from B3.out.box 0 _ _ rfl)).cell 0
    have a1 := ((show Blk _ w.heap.size _ _ from B3.out.box 0 _ _ rfl)).cell 1
    have a2 := ((show Blk _ w.heap.size _ _ from B3.out.box 0 _ _ rfl)).cell 2
    simp only [List.getElem?_toArray, List.getElem?_cons_zero, List.getElem?_cons_succ] at a0 a1 a2
    have b0 := ((show Blk _ (w.heap.size + 1) _ _ from B3.out.box 1 _ _ rfl)).cell 0
    have b1 := ((show Blk _ (w.heap.size + 1) _ _ from B3.out.box 1 _ _ rfl)).cell 1
    have b2 := ((show Blk _ (w.heap.size + 1) _ _ from B3.out.box 1 _ _ rfl)).cell 2
    simp only [List.getElem?_toArray, List.getElem?_cons_zero, List.getElem?_cons_succ] at b0 b1 b2
    go_wp2_with (refine wpList_store_row rfl 65 _ _ rfl w1.heap.size #[.func (.func 102) #[] #[.pointer (some ⟨x, 0, none⟩)]] rfl rfl 65 #[.nilFunc] (new_lies w1 _) (by kernel_rfl) rfl (by simp [Value.oneCell']) ?_; rw [World.setRow_alloc_new])
    clear hrun a0 a1 a2 b0 b1 b2 c3
    generalize w1.alloc (.cells #[.func (.func 102) #[] #[.pointer (some ⟨x, 0, none⟩)]] 65) = V3 at *
    refine (HBO.out V3 x B3.out.below X3.out).mono ?_
    rintro y w9 ⟨A9, n9, ca9, rfl, hn9, hA9, hF9, B9⟩
    have B4 := Lib.hid (B3.out.next B9)
    have BXt := Lib.hid (show Blk w9 (w.heap.size + 1 + 1) 28 #[.int .i64 0, .int .i64 0, .slice none 0 0] from B4.out.box 2 _ _ rfl)
    have HF9 := Lib.hid (show ∀ a, A9 = some a → w.heap.size + 1 + 1 < a.block from fun a e => Nat.lt_of_lt_of_le (show w.heap.size + 1 + 1 < V3.heap.size from (B3.out.box 2 _ _ rfl).lt) (hF9 a e))
    have HBt := Lib.hid B4.out.below
    have HN9 := Lib.hid hn9
    have HA9 := Lib.hid (manyR_put3 hA9 (X := w.heap.size + 1 + 1) (fun a e => by have := HF9.out a e; omega) (.int .i64 1) (.int .i64 1) (.slice A9 n9 ca9))
    clear B9 hn9 hA9 hF9 B3 B4
    have e0 := BXt.out.cell 0
    have e1 := BXt.out.cell 1
    have e2 := BXt.out.cell 2
    simp only [List.getElem?_toArray, List.getElem?_cons_zero, List.getElem?_cons_succ] at e0 e1 e2
    have f0 := BXt.out.frozen 0
    have f1 := BXt.out.frozen 1
    have f2 := BXt.out.frozen 2
    have lX := BXt.out.lt
    go_wp2_with fail
    change bodyPost _ _ _ _ _ (put3 w9 (w.heap.size + 1 + 1) (.int .i64 1) (.int .i64 1) (.slice A9 n9 ca9))
    have bXt := Lib.hid (blk_put3 BXt.out (.int .i64 1) (.int .i64 1) (.slice A9 n9 ca9))
    have HBu := below_put3 HBt.out (Nat.le_trans (Nat.le_succ _) (Nat.le_succ _)) (.int .i64 1) (.int .i64 1) (.slice A9 n9 ca9)
    generalize put3 w9 (w.heap.size + 1 + 1) (.int .i64 1) (.int .i64 1) (.slice A9 n9 ca9) = W2 at *
    have d0 := bXt.out.cell 0
    have d1 := bXt.out.cell 1
    have d2 := bXt.out.cell 2
    simp only [List.getElem?_toArray, List.getElem?_cons_zero, List.getElem?_cons_succ] at d0 d1 d2
    exact bodyPost_ret (v := .tuple #[.agg #[.int .i64 1, .int .i64 1, .slice A9 n9 ca9], .bool true]) (by simp [results, Tryz.f21, go_sem, d0, d1, d2]) rfl ⟨_, _, _, rfl, HN9.out, HA9.out, fun a e => by have := HF9.out a e; omega, HBu⟩
  | true =>
    simp only [hfit, if_true] at HBO ⊢
    go_enter Tryz.func21, Tryz.ntmps21
    go_wp2_with fail
    refine (HS.out _).mono ?_
    rintro z w1 ⟨mv, x, rfl, hb, hx, hlook⟩
    have hrun := hlook w1 (Below.refl _ _)
    have B1 := Lib.hid (B0.out.next hb)
    have hal := (Below.refl _ w1).alloc (Nat.le_refl _) (.cells #[.func (.func 102) #[] #[.pointer (some ⟨x, 0, none⟩)]] 65)
    have B3 := Lib.hid (B1.out.next hal)
    have X3 := Lib.hid (hx.next hal)
    have BF3 := Lib.hid (Blk.new w1 65 #[.func (.func 102) #[] #[.pointer (some ⟨x, 0, none⟩)]])
    clear hb B0 hx hlook hal B1
    have c3 := BF3.out.cell 0
    simp only [List.getElem?_toArray, List.getElem?_cons_zero] at c3
    have a0 := ((show Blk _ w.heap.size _ _ from B3.out.box 0 _ _ rfl)).cell 0
    have a1 := ((show Blk _ w.heap.size _ _ from B3.out.box 0 _ _ rfl)).cell 1
    have a2 := ((show Blk _ w.heap.size _ _ from B3.out.box 0 _ _ rfl)).cell 2
    simp only [List.getElem?_toArray, List.getElem?_cons_zero, List.getElem?_cons_succ] at a0 a1 a2
    have b0 := ((show Blk _ (w.heap.size + 1) _ _ from B3.out.box 1 _ _ rfl)).cell 0
    have b1 := ((show Blk _ (w.heap.size + 1) _ _ from B3.out.box 1 _ _ rfl)).cell 1
    have b2 := ((show Blk _ (w.heap.size + 1) _ _ from B3.out.box 1 _ _ rfl)).cell 2
    simp only [List.getElem?_toArray, List.getElem?_cons_zero, List.getElem?_cons_succ] at b0 b1 b2
    go_wp2_with (refine wpList_store_row rfl 65 _ _ rfl w1.heap.size #[.func (.func 102) #[] #[.pointer (some ⟨x, 0, none⟩)]] rfl rfl 65 #[.nilFunc] (new_lies w1 _) (by kernel_rfl) rfl (by simp [Value.oneCell']) ?_; rw [World.setRow_alloc_new])
    clear hrun a0 a1 a2 b0 b1 b2 c3
    generalize w1.alloc (.cells #[.func (.func 102) #[] #[.pointer (some ⟨x, 0, none⟩)]] 65) = V3 at *
    refine (HBO.out V3 x B3.out.below X3.out).mono ?_
    rintro y w9 ⟨A9, n9, ca9, rfl, hn9, hA9, hF9, B9⟩
    have B4 := Lib.hid (B3.out.next B9)
    have BXt := Lib.hid (show Blk w9 (w.heap.size + 1 + 1) 28 #[.int .i64 0, .int .i64 0, .slice none 0 0] from B4.out.box 2 _ _ rfl)
    have HF9 := Lib.hid (show ∀ a, A9 = some a → w.heap.size + 1 + 1 < a.block from fun a e => Nat.lt_of_lt_of_le (show w.heap.size + 1 + 1 < V3.heap.size from (B3.out.box 2 _ _ rfl).lt) (hF9 a e))
    have HBt := Lib.hid B4.out.below
    have HN9 := Lib.hid hn9
    have HA9 := Lib.hid (manyR_put3 hA9 (X := w.heap.size + 1 + 1) (fun a e => by have := HF9.out a e; omega) (.int .i64 (M : Int)) (.int .i64 (N : Int)) (.slice A9 n9 ca9))
    clear B9 hn9 hA9 hF9 B3 B4
    have e0 := BXt.out.cell 0
    have e1 := BXt.out.cell 1
    have e2 := BXt.out.cell 2
    simp only [List.getElem?_toArray, List.getElem?_cons_zero, List.getElem?_cons_succ] at e0 e1 e2
    have f0 := BXt.out.frozen 0
    have f1 := BXt.out.frozen 1
    have f2 := BXt.out.frozen 2
    have lX := BXt.out.lt
    go_wp2_with fail
    change bodyPost _ _ _ _ _ (put3 w9 (w.heap.size + 1 + 1) (.int .i64 (M : Int)) (.int .i64 (N : Int)) (.slice A9 n9 ca9))
    have bXt := Lib.hid (blk_put3 BXt.out (.int .i64 (M : Int)) (.int .i64 (N : Int)) (.slice A9 n9 ca9))
    have HBu := below_put3 HBt.out (Nat.le_trans (Nat.le_succ _) (Nat.le_succ _)) (.int .i64 (M : Int)) (.int .i64 (N : Int)) (.slice A9 n9 ca9)
    generalize put3 w9 (w.heap.size + 1 + 1) (.int .i64 (M : Int)) (.int .i64 (N : Int)) (.slice A9 n9 ca9) = W2 at *
    have d0 := bXt.out.cell 0
    have d1 := bXt.out.cell 1
    have d2 := bXt.out.cell 2
    simp only [List.getElem?_toArray, List.getElem?_cons_zero, List.getElem?_cons_succ] at d0 d1 d2
    exact bodyPost_ret (v := .tuple #[.agg #[.int .i64 (M : Int), .int .i64 (N : Int), .slice A9 n9 ca9], .bool true]) (by simp [results, Tryz.f21, go_sem, d0, d1, d2]) rfl ⟨_, _, _, rfl, HN9.out, HA9.out, fun a e => by have := HF9.out a e; omega, HBu⟩
end Go.Proofs.YtdmbppgogdkpdaaGreatDoor
