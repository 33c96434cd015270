/-
  value.ToText of a text; ftext.textSplit: their contracts. Conditions: the texts are of at most 255 bytes, the second one not empty; internal/bytealg.MaxLen holds some int.
  ftext.Call at TEXTSPLIT over two texts; Lib.Call at TEXTSPLIT: their contracts. Conditions: the texts are of at most 255 bytes, the second one not empty; internal/bytealg.MaxLen holds some int.
  Lib.Call at TEXTSPLIT over two texts: its contract. Conditions: the texts are of at most 255 bytes, the second one not empty; internal/bytealg.MaxLen holds some int.
-/
import Derived.Test.YtdmbppgogdkpdaaGreatDoorZ6
set_option linter.unusedSectionVars false
namespace Go.Proofs.YtdmbppgogdkpdaaGreatDoor
open Go.RowKit
set_option maxRecDepth 100000 in
set_option maxHeartbeats 1000000 in
theorem toText_c (t : ByteArray) (w : World) : Calls Tryz.prog 120 #[.agg #[.int .i64 2, .int .i64 0, .int .i64 0, .string t, .bool false, .int .i64 0]] w fun e w' => e = .returned (.tuple #[.string t, .int .i64 0]) ∧ Below w.heap.size w w' := by
  go_enter Tryz.func120, Tryz.ntmps120
  go_wp2_with fail
  exact bodyPost_ret (v := .tuple #[.string t, .int .i64 0]) (by simp [results, Tryz.f120, go_sem]) rfl ⟨rfl, (Below.refl _ w).alloc (Nat.le_refl _) _⟩
theorem OneR.cells {w : World} {g : Nat} {x : Val} (h : OneR w g x) (j : Nat) (v : Value) (hv : x.cs[j]? = some v) : w.cell? ⟨g, j, none⟩ = some v := by
  obtain ⟨e, fr, h1⟩ := h
  unfold World.cell?
  simp only [h1]
  simpa using hv
def partsB (t sep : ByteArray) : List ByteArray := Lib.splitB sep 0 (Lib.countB t sep) t
def splitV (t sep : ByteArray) : List Val := (partsB t sep).map strV
theorem partsB_len (t sep : ByteArray) (h : 1 ≤ sep.size) : (partsB t sep).length = Lib.countB t sep + 1 := Lib.splitB_all sep h 0 _ t rfl
theorem split_small (sep : ByteArray) : ∀ (k : Nat) (s : ByteArray), ∀ p ∈ Lib.splitB sep 0 k s, p.size ≤ s.size
  | 0, s, p, hp => by
    rw [Lib.splitB_zero] at hp
    obtain rfl := List.mem_singleton.1 hp
    exact Nat.le_refl _
  | k + 1, s, p, hp => by
    unfold Lib.splitB at hp
    split at hp
    · obtain rfl := List.mem_singleton.1 hp
      exact Nat.le_refl _
    · rcases List.mem_cons.1 hp with rfl | hp
      · rw [ByteArray.size_extract]; omega
      · have := split_small sep k _ p hp
        rw [ByteArray.size_extract] at this
        omega
theorem textV_le {t : ByteArray} (h : t.size ≤ 255) : textV t = strV t := if_pos h
set_option maxRecDepth 100000 in
set_option maxHeartbeats 4000000 in
theorem split_c (t sep : ByteArray) (ht : t.size ≤ 255) (hs : 1 ≤ sep.size) (bG g1 g2 cG : Nat) (w : World) (hG : Blk w bG 28 #[.int .i64 1, .int .i64 1, .slice (some ⟨g1, 0, none⟩) 1 1, .int .i64 1, .int .i64 1, .slice (some ⟨g2, 0, none⟩) 1 1]) (h1 : OneR w g1 (strV t)) (h2 : OneR w g2 (strV sep)) (hm : MaxT w) :
    Calls Tryz.prog 185 #[.slice (some ⟨bG, 0, none⟩) 2 cG] w (RetA w 1 (Lib.countB t sep + 1 : Nat) (splitV t sep)) := by
  obtain ⟨i0, hi, hz0, hz1, hz2⟩ := info_parts Tryz.infoV
  have B0 := Lib.hid (Bxs.start w [(28, #[.int .i64 0, .int .i64 0, .slice none 0 0])])
  simp only [allocAll] at B0
  have HG := Lib.hid hG
  have H1 := Lib.hid h1
  have H2 := Lib.hid h2
  have HM := Lib.hid hm
  have HS := Lib.hid hs
  have HTX := Lib.hid (fun (s : ByteArray) (hs : s.size ≤ 255) W => show Calls Tryz.prog 121 #[.string s] W (fun x w' => x = .returned (.agg #[.int .i64 2, .int .i64 0, .int .i64 0, .string s, .bool false, .int .i64 0]) ∧ Below W.heap.size W w') from by
    have := vtext_c s W
    rw [textV_le hs] at this
    exact this)
  have HSP := Lib.hid (fun W (h : MaxT W) => show Calls Tryz.prog 271 #[.string t, .string sep] W (fun e w' => e = .returned (.slice (some ⟨W.heap.size, 0, none⟩) (Lib.countB t sep + 1) (Lib.countB t sep + 1)) ∧ w' = W.alloc (.cells ((partsB t sep).map Value.string).toArray 9)) from by
    obtain ⟨m, h⟩ := h
    exact Tryz.strings_Split t sep m W (by omega) h hs)
  have hse : sep.toList.isEmpty = false := by
    cases hq : sep.toList with
    | nil =>
      have h1 : sep.data.toList = [] := by rw [← Go.ByteArray.toList_eq]; exact hq
      have h2 : sep.size = 0 := by show sep.data.size = 0; rw [← Array.length_toList, h1]; rfl
      omega
    | cons _ _ => rfl
  have HC := Lib.hid (show Lib.countB t sep ≤ 255 from by
    have h := lessB_size t sep hs
    have h2 := Nat.le_mul_of_pos_right (Lib.countB t sep) hs
    omega)
  clear hG h1 h2 hm hs
  have K := Lib.hid (fun W (hW : Below w.heap.size w W) => And.intro (HG.out.kept (hW.block _ HG.out.lt)) (And.intro (H1.out.next hW) (H2.out.next hW)))
  have a2 := (K.out _ B0.out.below).1.cell 2
  have a5 := (K.out _ B0.out.below).1.cell 5
  simp only [List.getElem?_toArray, List.getElem?_cons_zero, List.getElem?_cons_succ] at a2 a5
  have p0 := (K.out _ B0.out.below).2.1.cells 0 _ rfl
  have p1 := (K.out _ B0.out.below).2.1.cells 1 _ rfl
  have p2 := (K.out _ B0.out.below).2.1.cells 2 _ rfl
  have p3 := (K.out _ B0.out.below).2.1.cells 3 _ rfl
  have p4 := (K.out _ B0.out.below).2.1.cells 4 _ rfl
  have p5 := (K.out _ B0.out.below).2.1.cells 5 _ rfl
  have q0 := (K.out _ B0.out.below).2.2.cells 0 _ rfl
  have q1 := (K.out _ B0.out.below).2.2.cells 1 _ rfl
  have q2 := (K.out _ B0.out.below).2.2.cells 2 _ rfl
  have q3 := (K.out _ B0.out.below).2.2.cells 3 _ rfl
  have q4 := (K.out _ B0.out.below).2.2.cells 4 _ rfl
  have q5 := (K.out _ B0.out.below).2.2.cells 5 _ rfl
  simp only [strV] at p0 p1 p2 p3 p4 p5 q0 q1 q2 q3 q4 q5
  go_enter Tryz.func185, Tryz.ntmps185
  go_wp2_with fail
  refine (toText_c t _).mono ?_
  rintro z w1 ⟨rfl, hb⟩
  have B1 := Lib.hid (B0.out.next hb)
  clear hb B0 a2 a5 p0 p1 p2 p3 p4 p5 q0 q1 q2 q3 q4 q5
  have a2 := (K.out _ B1.out.below).1.cell 2
  have a5 := (K.out _ B1.out.below).1.cell 5
  simp only [List.getElem?_toArray, List.getElem?_cons_zero, List.getElem?_cons_succ] at a2 a5
  have p0 := (K.out _ B1.out.below).2.1.cells 0 _ rfl
  have p1 := (K.out _ B1.out.below).2.1.cells 1 _ rfl
  have p2 := (K.out _ B1.out.below).2.1.cells 2 _ rfl
  have p3 := (K.out _ B1.out.below).2.1.cells 3 _ rfl
  have p4 := (K.out _ B1.out.below).2.1.cells 4 _ rfl
  have p5 := (K.out _ B1.out.below).2.1.cells 5 _ rfl
  have q0 := (K.out _ B1.out.below).2.2.cells 0 _ rfl
  have q1 := (K.out _ B1.out.below).2.2.cells 1 _ rfl
  have q2 := (K.out _ B1.out.below).2.2.cells 2 _ rfl
  have q3 := (K.out _ B1.out.below).2.2.cells 3 _ rfl
  have q4 := (K.out _ B1.out.below).2.2.cells 4 _ rfl
  have q5 := (K.out _ B1.out.below).2.2.cells 5 _ rfl
  simp only [strV] at p0 p1 p2 p3 p4 p5 q0 q1 q2 q3 q4 q5
  go_wp2_with fail
  refine (toText_c sep _).mono ?_
  rintro z w2 ⟨rfl, hb⟩
  have B2 := Lib.hid (B1.out.next hb)
  have HM2 := Lib.hid (HM.out.next B2.out.below)
  clear hb B1 a2 a5 p0 p1 p2 p3 p4 p5 q0 q1 q2 q3 q4 q5
  have HPL := Lib.hid (partsB_len t sep HS.out)
  have HSM := Lib.hid (show ∀ p ∈ partsB t sep, p.size ≤ 255 from fun p hp => Nat.le_trans (split_small _ _ _ p hp) ht)
  go_wp2_with fail
  refine (HSP.out _ HM2.out).mono ?_
  rintro z w3 ⟨rfl, rfl⟩
  have hal := (Below.refl _ w2).alloc (Nat.le_refl _) (.cells ((partsB t sep).map Value.string).toArray 9)
  have B3 := Lib.hid (B2.out.next hal)
  have HP3 := Lib.hid (Blk.new w2 9 ((partsB t sep).map Value.string).toArray)
  have HG1 := Lib.hid (show w.heap.size < w2.heap.size from (B2.out.box 0 _ _ rfl).lt)
  clear hal B2 HSP HM HM2 HS
  generalize w2.alloc (.cells ((partsB t sep).map Value.string).toArray 9) = V at *
  generalize w2.heap.size = gP at *
  have hcn := HC.out
  generalize hN : Lib.countB t sep + 1 = n at *
  have hn : n ≤ 256 := by omega
  clear hcn
  go_wp2_with fail
  go_loopw [6, 44] (fun v i wr => ∃ (j : Nat) (A' : Option Addr) (c' : Nat), j ≤ n ∧ i = .int .i64 j ∧ v = .slice A' j c' ∧ Hid (wr.ownsRow V.heap.size 41 6 (.slice A' j c') j (((splitV t sep).take j).flatMap Val.cs)) ∧ Hid (Below V.heap.size V wr)) (fun _ i _ => n - (intOf i).toNat)
  case atStart => exact ⟨0, none, 0, Nat.zero_le _, rfl, rfl, Lib.hid (World.ownsRow_nil _ _ _ _), Lib.hid (Below.refl _ _)⟩
  case round =>
    obtain ⟨j, A', c', hj, rfl, rfl, hrow, hb⟩ := hrel
    by_cases hlt : j < n
    · have hjl : j < (partsB t sep).length := by rw [HPL.out]; exact hlt
      have hP := Lib.hid (HP3.out.kept (hb.out.block _ HP3.out.lt))
      have r0 : wr.cell? ⟨gP, j, none⟩ = some (.string (partsB t sep)[j]) := by
        have := hP.out.cell j
        rw [this]
        simp [hjl]
      have HS1 := Lib.hid (HSM.out _ (List.getElem_mem hjl))
      have HTK := Lib.hid (show (splitV t sep).take (j + 1) = (splitV t sep).take j ++ [strV (partsB t sep)[j]] from by
        have hl : j < (splitV t sep).length := by unfold splitV; rw [List.length_map]; exact hjl
        rw [List.take_succ_eq_append_getElem hl]
        have he : (splitV t sep)[j] = strV (partsB t sep)[j] := by simp [splitV]
        rw [he])
      generalize (partsB t sep)[j] = p at *
      have hj0 : (0 : Int) ≤ (j : Int) := by omega
      have hjn : (j : Int) < (n : Int) := by omega
      have wj : IntKind.i64.wrap ((j : Int) + 1) = (j : Int) + 1 := IntWalk.i64_in _ (by omega)
      go_wp2_with fail
      refine (HTX.out p HS1.out _).mono ?_
      rintro z w1 ⟨rfl, hq⟩
      have HB1 := Lib.hid (hb.out.trans (hq.mono hb.out.size))
      have HR1 := Lib.hid (ownsRow_kept hrow.out (w' := w1) (fun g _ hg => hq.block g hg))
      clear hq r0 hP hb hrow
      have bl : Below w1.heap.size w1 (w1.alloc (.cells #[.int .i64 2, .int .i64 0, .int .i64 0, .string p, .bool false, .int .i64 0] 41)) := (Below.refl _ w1).alloc (Nat.le_refl _) _
      have HB2 := Lib.hid (HB1.out.trans (bl.mono HB1.out.size))
      have HR2 := Lib.hid (ownsRow_kept HR1.out (w' := w1.alloc (.cells #[.int .i64 2, .int .i64 0, .int .i64 0, .string p, .bool false, .int .i64 0] 41)) (fun g _ hg => bl.block g hg))
      have HSrc : Hid (∀ ad, some (⟨w1.heap.size, 0, none⟩ : Addr) = some ad → ∀ j u, [Value.int .i64 2, .int .i64 0, .int .i64 0, .string p, .bool false, .int .i64 0][j]? = some u → (w1.alloc (.cells #[.int .i64 2, .int .i64 0, .int .i64 0, .string p, .bool false, .int .i64 0] 41)).cell? (ad.add j) = some u) := fun ad hE j u hj => by
        cases hE
        have := (Blk.new w1 41 #[.int .i64 2, .int .i64 0, .int .i64 0, .string p, .bool false, .int .i64 0]).cell j
        rw [add_at, Nat.zero_add]
        refine this.trans ?_
        simpa using hj
      have HBase := Lib.hid (ownsRow_base HR2.out)
      have HSZ := Lib.hid HB2.out.size
      clear bl HB1 HR1
      go_wp2_with (at_builtin; refine wpList_append_src _ rfl _ _ _ rfl V.heap.size 41 i0 _ 6 56 Tryz.underlying26 hi hz0 hz1 hz2 rfl (by omega) _ j (((splitV t sep).take j).flatMap Val.cs) rfl HR2.out (some ⟨w1.heap.size, 0, none⟩) 1 1 [.int .i64 2, .int .i64 0, .int .i64 0, .string p, .bool false, .int .i64 0] rfl (fun e => by cases e) rfl HSrc.out (by simp [Value.oneCell']) (by simp only [maxLen]; omega) (by omega) HSZ.out ?_; intro v2 w4 hr6 hg6 hat6)
      have HR3 := Lib.hid (show w4.ownsRow V.heap.size 41 6 v2 (j + 1) (((splitV t sep).take (j + 1)).flatMap Val.cs) by rw [HTK.out, List.flatMap_append]; exact hr6)
      have HB3 := Lib.hid (below_grew HB2.out hg6 (fun g hg => HBase.out g hg))
      clear hr6 hg6 hat6
      obtain ⟨A2, c2, rfl, hAc⟩ := ownsRow_shape HR3.out
      clear hAc
      go_wp2_with fail
      go_roundw
      case rel => exact ⟨j + 1, _, _, hlt, by go_num, rfl, HR3, HB3⟩
      case measure => simp [intOf]; omega
    · obtain rfl : j = n := by omega
      have hjj : decide ((j : Int) < (j : Int)) = false := decide_eq_false (by omega)
      have HE := Lib.hid (show (splitV t sep).take j = splitV t sep from List.take_of_length_le (by unfold splitV; rw [List.length_map, HPL.out]; exact Nat.le_refl _))
      have HX := Lib.hid (show Blk wr w.heap.size 28 #[.int .i64 0, .int .i64 0, .slice none 0 0] from (B3.out.box 0 _ _ rfl).kept (hb.out.block _ (B3.out.box 0 _ _ rfl).lt))
      have HBt := Lib.hid (B3.out.below.trans (hb.out.mono B3.out.below.size))
      have HR := Lib.hid (show wr.ownsRow V.heap.size 41 6 (.slice A' j c') j ((splitV t sep).flatMap Val.cs) by have := hrow.out; rwa [HE.out] at this)
      have HF := Lib.hid (manyR_of_row (f := Val.cs) (k := 6) (fun _ => rfl) (by omega) HR.out)
      have HVL := Lib.hid (show w.heap.size < V.heap.size from (B3.out.box 0 _ _ rfl).lt)
      have HFr := Lib.hid (show ∀ z, A' = some z → w.heap.size < z.block from fun z hz => by
        subst hz
        have := ownsRow_base HR.out z.block rfl
        have := HVL.out
        omega)
      have HA9 := Lib.hid (manyR_put3 HF.out.2 (X := w.heap.size) (fun a e => by have := HFr.out a e; omega) (.int .i64 1) (.int .i64 j) (.slice A' j c'))
      have e0 := HX.out.cell 0
      have e1 := HX.out.cell 1
      have e2 := HX.out.cell 2
      simp only [List.getElem?_toArray, List.getElem?_cons_zero, List.getElem?_cons_succ] at e0 e1 e2
      have f0 := HX.out.frozen 0
      have f1 := HX.out.frozen 1
      have f2 := HX.out.frozen 2
      have lX := HX.out.lt
      clear B3 hb hrow HR
      go_wp2_with fail
      change bodyPost _ _ _ _ _ (put3 wr w.heap.size (.int .i64 1) (.int .i64 j) (.slice A' j c'))
      have bXt := Lib.hid (blk_put3 HX.out (.int .i64 1) (.int .i64 j) (.slice A' j c'))
      have HBu := below_put3 HBt.out (Nat.le_refl _) (.int .i64 1) (.int .i64 j) (.slice A' j c')
      generalize put3 wr w.heap.size (.int .i64 1) (.int .i64 j) (.slice A' j c') = W2 at *
      have d0 := bXt.out.cell 0
      have d1 := bXt.out.cell 1
      have d2 := bXt.out.cell 2
      simp only [List.getElem?_toArray, List.getElem?_cons_zero, List.getElem?_cons_succ] at d0 d1 d2
      exact bodyPost_ret (v := .agg #[.int .i64 1, .int .i64 j, .slice A' j c']) (by simp [results, Tryz.f185, go_sem, d0, d1, d2]) rfl ⟨_, _, _, rfl, HF.out.1, HA9.out, fun a e => Nat.le_of_lt (HFr.out a e), HBu⟩
end Go.Proofs.YtdmbppgogdkpdaaGreatDoor
namespace Go.Proofs.YtdmbppgogdkpdaaGreatDoor
open Go.RowKit
namespace AM
variable {P : Program}
def absArr2 : Value := .slice (some ⟨16, 0, none⟩) 2 (3 * big + 2)
theorem flat2_calls [Toks] {call : ACall} (hC : CallOk P call) {f : Nat} {name : ByteArray} {x : Value} (h : tellsT (call f [.string name, absArr2] ⟨.nil, 17⟩) x = true) (hu : plainV 8 x = true) (s sc : Nat) (hs : 2 ≤ sc) (w : World) :
    Calls P f #[.string name, .slice (some ⟨s, 0, none⟩) 2 sc] w fun e w' => e = .returned x ∧ Below w.heap.size w w' := by
  let μ : Mp := ⟨fun k => if k < glob then some (k, sizeAt w k) else if k = 16 then some (s, sc * 3) else none, 17, fun k hk => by
    have h1 : ¬ k < glob := by unfold glob; omega
    simp only [if_neg h1]; rw [if_neg (by omega)], fun k hk => ⟨sizeAt w k, if_pos hk⟩⟩
  have hrel : Rel μ ⟨.nil, 17⟩ (baseAt w) w := ⟨rfl, rfl, rfl, Nat.le_refl _, fun _ _ => rfl, by decide, rfl, (fun k b hk => by cases hk), (fun k j b c hk => by cases hk), (fun k b hk => by cases hk)⟩
  have h16 : μ 16 = some (s, sc * 3) := by
    show (if 16 < glob then some (16, sizeAt w 16) else if 16 = 16 then some (s, sc * 3) else none) = _
    rw [if_neg (by unfold glob; omega), if_pos rfl]
  unfold tellsT at h
  split at h
  · rename_i outs h0
    have main := hC (baseAt w) f [.string name, absArr2] ⟨.nil, 17⟩ outs μ #[.string name, .slice (some ⟨s, 0, none⟩) 2 sc] w h0 hrel (.cons (.string name) (.cons (.slx 0 2 2 sc 3 h16 (by omega) (by omega) (by omega) hs (by decide)) (.nil _)))
    refine (callsIn_wide (n := 0)).1 (CallsIn.mono (callsIn_fw (r' := none) main) ?_)
    rintro _ w' ⟨p, hp, ν, v', rfl, _, k2, k3⟩
    have hb := List.all_eq_true.1 h p hp
    rw [veq_ok _ _ _ hb] at k3
    exact ⟨by rw [plain_inv 8 _ _ hu k3], k2.os, k2.tape, k2.output, k2.size, fun k hk => k2.keep k hk⟩
  · cases h
theorem none2_fmath_TEXTSPLIT [Toks] : tellsT ((amP Tryz.prog).1 43 [.string ⟨#[84, 69, 88, 84, 83, 80, 76, 73, 84]⟩, absArr2] ⟨.nil, 17⟩) (.tuple #[.agg #[.int .i64 0, .int .i64 0, .slice none 0 0], .bool false]) = true := by kernel_rfl
end AM
set_option maxRecDepth 100000 in
theorem tabSplit_c (W : World) : Calls Tryz.prog 90 #[] W fun e w' => ∃ v, e = .returned v ∧ Below W.heap.size W w' ∧ ∀ V, Below w'.heap.size w' V → (Instr.lookup 96 v (.string ⟨#[84, 69, 88, 84, 83, 80, 76, 73, 84]⟩) true).run Tryz.prog V = .ok (.tuple #[.agg #[.int .i64 2, .int .i64 2, .func (.func 185) #[] #[]], .bool true]) V := by
  letI : AM.Toks := AM.noToks
  refine (AM.table_calls AM.amP_ok.1 AM.envP_ok AM.eqP_ok AM.text_T W).mono ?_
  rintro e w' ⟨v, x, rfl, hb, h⟩
  obtain ⟨_, h4⟩ := h _ (List.Mem.tail _ (List.Mem.tail _ (List.Mem.head _)))
  exact ⟨v, rfl, hb, h4⟩
theorem oneRight (x : Val) (hr : RightV x) (hf : FitsV x) (g : Nat) (W : World) (h : OneR W g x) : Calls Tryz.prog 75 #[.agg #[.int .i64 1, .int .i64 1, .slice (some ⟨g, 0, none⟩) 1 1]] W fun e w' => e = .returned (.bool true) ∧ Below W.heap.size W w' := by
  refine (shright_c 1 1 (some ⟨g, 0, none⟩) 1 1 [x] W h.many rfl (by decide) (fun v hv => by obtain rfl := List.mem_singleton.1 hv; exact hf)).mono ?_
  rintro e w' ⟨b, rfl, hb, q⟩
  have hA : RightA 1 1 [x] := ⟨by omega, by omega, by rfl, fun v hv => by rw [List.mem_singleton.1 hv]; exact hr⟩
  exact ⟨by rw [hb.2 hA], q⟩
set_option maxRecDepth 100000 in
set_option maxHeartbeats 1000000 in
theorem callSplit_c (x1 x2 : Val) (hr1 : RightV x1) (hf1 : FitsV x1) (hr2 : RightV x2) (hf2 : FitsV x2) (bG g1 g2 cG : Nat) (w : World) (hG : Blk w bG 28 #[.int .i64 1, .int .i64 1, .slice (some ⟨g1, 0, none⟩) 1 1, .int .i64 1, .int .i64 1, .slice (some ⟨g2, 0, none⟩) 1 1]) (h1 : OneR w g1 x1) (h2 : OneR w g2 x2)
    (r c : Int) (l' : List Val) (hcl : ∀ W, Below w.heap.size w W → Calls Tryz.prog 185 #[.slice (some ⟨bG, 0, none⟩) 2 cG] W (RetA W r c l')) :
    Calls Tryz.prog 46 #[.string ⟨#[84, 69, 88, 84, 83, 80, 76, 73, 84]⟩, .slice (some ⟨bG, 0, none⟩) 2 cG] w (CallA w r c l') := by
  have HB := Lib.hid ((Below.refl _ w).alloc (Nat.le_refl _) (.cells #[.int .i64 0, .int .i64 0, .slice none 0 0] 28))
  have BX := Lib.hid (Blk.new w 28 #[.int .i64 0, .int .i64 0, .slice none 0 0])
  have HTB := Lib.hid (fun W => tabSplit_c W)
  have HG := Lib.hid hG
  have HR1 := Lib.hid (fun W (hb : Below w.heap.size w W) => oneRight x1 hr1 hf1 g1 W (h1.next hb))
  have HR2 := Lib.hid (fun W (hb : Below w.heap.size w W) => oneRight x2 hr2 hf2 g2 W (h2.next hb))
  have HCL := Lib.hid hcl
  clear hG h1 h2 hcl
  go_enter Tryz.func46, Tryz.ntmps46
  go_wp2_with fail
  refine (HTB.out _).mono ?_
  rintro _ w1 ⟨mv, rfl, hB1, hlook⟩
  have hrun := hlook w1 (Below.refl _ _)
  have BX1 := Lib.hid ((BX.out.kept (hB1.block _ BX.out.lt)).alloc (.cells #[.int .i64 2, .int .i64 2, .func (.func 185) #[] #[]] 98))
  have HB1 := Lib.hid ((HB.out.trans (hB1.mono HB.out.size)).alloc (Nat.le_trans HB.out.size hB1.size) (.cells #[.int .i64 2, .int .i64 2, .func (.func 185) #[] #[]] 98))
  have HP1 := Lib.hid (Blk.new w1 98 #[.int .i64 2, .int .i64 2, .func (.func 185) #[] #[]])
  have HPS := Lib.hid (show w.heap.size < w1.heap.size from Nat.lt_of_lt_of_le BX.out.lt hB1.size)
  clear hB1 hlook HB BX HTB
  have p0 := HP1.out.cell 0
  have p1 := HP1.out.cell 1
  have p2 := HP1.out.cell 2
  simp only [List.getElem?_toArray, List.getElem?_cons_zero, List.getElem?_cons_succ] at p0 p1 p2
  go_wp2_with (refine wpList_store_row rfl 98 _ _ rfl w1.heap.size #[.int .i64 2, .int .i64 2, .func (.func 185) #[] #[]] rfl rfl 98 #[.int .i64 0, .int .i64 0, .nilFunc] (new_lies w1 _) (by kernel_rfl) rfl (by simp [Value.oneCell']) ?_; rw [World.setRow_alloc_new])
  clear p0 p1 p2 hrun
  generalize w1.alloc (.cells #[.int .i64 2, .int .i64 2, .func (.func 185) #[] #[]] 98) = V at *
  generalize w1.heap.size = p at *
  go_loopw [34] (fun v wr => ∃ j : Nat, j ≤ 2 ∧ v = .int .i64 (j : Int) ∧ Hid (Below V.heap.size V wr)) (fun v _ => 2 - (intOf v).toNat)
  case atStart => exact ⟨0, by omega, rfl, Lib.hid (Below.refl _ _)⟩
  case round =>
    obtain ⟨j, hj, rfl, hb⟩ := hrel
    have bW := Lib.hid (HB1.out.trans (hb.out.mono HB1.out.size))
    have BXW := Lib.hid (BX1.out.kept (hb.out.block _ BX1.out.lt))
    have GW := Lib.hid (HG.out.kept (bW.out.block _ HG.out.lt))
    have g0 := GW.out.cell 0
    have g1' := GW.out.cell 1
    have g2' := GW.out.cell 2
    have g3 := GW.out.cell 3
    have g4 := GW.out.cell 4
    have g5 := GW.out.cell 5
    simp only [List.getElem?_toArray, List.getElem?_cons_zero, List.getElem?_cons_succ] at g0 g1' g2' g3 g4 g5
    rcases (show j = 0 ∨ j = 1 ∨ j = 2 by omega) with rfl | rfl | rfl
    · skip
      have HB2 := Lib.hid (hb.out.alloc hb.out.size (.cells #[.int .i64 1, .int .i64 1, .slice (some ⟨g1, 0, none⟩) 1 1] 28))
      have HN2 := Lib.hid (Blk.new wr 28 #[.int .i64 1, .int .i64 1, .slice (some ⟨g1, 0, none⟩) 1 1])
      have HRR := Lib.hid (HR1.out (wr.alloc (.cells #[.int .i64 1, .int .i64 1, .slice (some ⟨g1, 0, none⟩) 1 1] 28)) (bW.out.alloc bW.out.size (.cells #[.int .i64 1, .int .i64 1, .slice (some ⟨g1, 0, none⟩) 1 1] 28)))
      have a0 := HN2.out.cell 0
      have a1 := HN2.out.cell 1
      have a2 := HN2.out.cell 2
      simp only [List.getElem?_toArray, List.getElem?_cons_zero, List.getElem?_cons_succ] at a0 a1 a2
      clear bW BXW GW
      go_wp2_with fail
      refine HRR.out.mono ?_
      rintro y w3 ⟨rfl, B1⟩
      have HB3 := Lib.hid (HB2.out.trans (B1.mono HB2.out.size))
      clear B1 g0 g1' g2' g3 g4 g5 a0 a1 a2 HB2 HN2
      go_wp2_with fail
      go_roundw
      case rel => exact ⟨1, by omega, by go_num, HB3⟩
      case measure => simp [intOf]
    · skip
      have HB2 := Lib.hid (hb.out.alloc hb.out.size (.cells #[.int .i64 1, .int .i64 1, .slice (some ⟨g2, 0, none⟩) 1 1] 28))
      have HN2 := Lib.hid (Blk.new wr 28 #[.int .i64 1, .int .i64 1, .slice (some ⟨g2, 0, none⟩) 1 1])
      have HRR := Lib.hid (HR2.out (wr.alloc (.cells #[.int .i64 1, .int .i64 1, .slice (some ⟨g2, 0, none⟩) 1 1] 28)) (bW.out.alloc bW.out.size (.cells #[.int .i64 1, .int .i64 1, .slice (some ⟨g2, 0, none⟩) 1 1] 28)))
      have a0 := HN2.out.cell 0
      have a1 := HN2.out.cell 1
      have a2 := HN2.out.cell 2
      simp only [List.getElem?_toArray, List.getElem?_cons_zero, List.getElem?_cons_succ] at a0 a1 a2
      clear bW BXW GW
      go_wp2_with fail
      refine HRR.out.mono ?_
      rintro y w3 ⟨rfl, B1⟩
      have HB3 := Lib.hid (HB2.out.trans (B1.mono HB2.out.size))
      clear B1 g0 g1' g2' g3 g4 g5 a0 a1 a2 HB2 HN2
      go_wp2_with fail
      go_roundw
      case rel => exact ⟨2, by omega, by go_num, HB3⟩
      case measure => simp [intOf]
    · have hPW := Lib.hid (HP1.out.kept (hb.out.block _ HP1.out.lt))
      have HC2 := Lib.hid (HCL.out wr bW.out)
      clear g0 g1' g2' g3 g4 g5
      have p0 := hPW.out.cell 0
      have p1 := hPW.out.cell 1
      have p2 := hPW.out.cell 2
      simp only [List.getElem?_toArray, List.getElem?_cons_zero, List.getElem?_cons_succ] at p0 p1 p2
      clear hb GW BX1 HB1
      go_wp2_with fail
      refine HC2.out.mono ?_
      clear p0 p1 p2
      rintro y w9 ⟨A9, n9, ca9, rfl, hn9, hA9, hF9, B9⟩
      have BXt := Lib.hid (BXW.out.kept (B9.block _ BXW.out.lt))
      have HBt := Lib.hid (bW.out.trans (B9.mono bW.out.size))
      have HN9 := Lib.hid hn9
      have HF9 := Lib.hid (show ∀ a, A9 = some a → w.heap.size < a.block from fun a e => Nat.lt_of_lt_of_le BXW.out.lt (hF9 a e))
      have HA9 := Lib.hid (manyR_put3 hA9 (X := w.heap.size) (fun a e => by have := HF9.out a e; omega) (.int .i64 r) (.int .i64 c) (.slice A9 n9 ca9))
      clear B9 hn9 hA9 hF9 BXW bW
      have e0 := BXt.out.cell 0
      have e1 := BXt.out.cell 1
      have e2 := BXt.out.cell 2
      simp only [List.getElem?_toArray, List.getElem?_cons_zero, List.getElem?_cons_succ] at e0 e1 e2
      have f0 := BXt.out.frozen 0
      have f1 := BXt.out.frozen 1
      have f2 := BXt.out.frozen 2
      have lX := BXt.out.lt
      go_wp2_with fail
      change bodyPost _ _ _ _ _ (put3 w9 w.heap.size (.int .i64 r) (.int .i64 c) (.slice A9 n9 ca9))
      have bXt := Lib.hid (blk_put3 BXt.out (.int .i64 r) (.int .i64 c) (.slice A9 n9 ca9))
      have HBu := below_put3 HBt.out (Nat.le_refl _) (.int .i64 r) (.int .i64 c) (.slice A9 n9 ca9)
      generalize put3 w9 w.heap.size (.int .i64 r) (.int .i64 c) (.slice A9 n9 ca9) = W2 at *
      have d0 := bXt.out.cell 0
      have d1 := bXt.out.cell 1
      have d2 := bXt.out.cell 2
      simp only [List.getElem?_toArray, List.getElem?_cons_zero, List.getElem?_cons_succ] at d0 d1 d2
      exact bodyPost_ret (v := .tuple #[.agg #[.int .i64 r, .int .i64 c, .slice A9 n9 ca9], .bool true]) (by simp [results, Tryz.f46, go_sem, d0, d1, d2]) rfl ⟨_, _, _, rfl, HN9.out, HA9.out, fun a e => Nat.le_of_lt (HF9.out a e), HBu⟩
end Go.Proofs.YtdmbppgogdkpdaaGreatDoor
namespace Go.Proofs.YtdmbppgogdkpdaaGreatDoor
open Go.RowKit
set_option maxRecDepth 100000 in
set_option maxHeartbeats 1000000 in
theorem lib_t (nb : ByteArray) (bG cG : Nat) (r c : Int) (l' : List Val) (w : World) (h0 : ∀ W, Calls Tryz.prog 43 #[.string nb, .slice (some ⟨bG, 0, none⟩) 2 cG] W (NoneP W))
    (hc : ∀ W, Below w.heap.size w W → Calls Tryz.prog 46 #[.string nb, .slice (some ⟨bG, 0, none⟩) 2 cG] W (CallA W r c l')) :
    Calls Tryz.prog 16 #[.agg #[], .string nb, .slice (some ⟨bG, 0, none⟩) 2 cG] w (CallA w r c l') := by
  have HH := Lib.hid hc
  have H0 := Lib.hid h0
  clear hc h0
  have HB := Lib.hid (((Below.refl w.heap.size w).alloc (Nat.le_refl _) (.cells #[] 31)).alloc (by simp) (.cells #[.int .i64 0, .int .i64 0, .slice none 0 0] 28))
  have HL := Lib.hid (show Blk ((w.alloc (.cells #[] 31)).alloc (.cells #[.int .i64 0, .int .i64 0, .slice none 0 0] 28)) (w.heap.size + 1) 28 #[.int .i64 0, .int .i64 0, .slice none 0 0] by
    have := Blk.new (w.alloc (.cells #[] 31)) 28 #[.int .i64 0, .int .i64 0, .slice none 0 0]
    rwa [show (w.alloc (.cells #[] 31)).heap.size = w.heap.size + 1 by simp] at this)
  go_enter Tryz.func16, Tryz.ntmps16
  go_wp2_with fail
  generalize (w.alloc (.cells #[] 31)).alloc (.cells #[.int .i64 0, .int .i64 0, .slice none 0 0] 28) = V at *
  refine Calls.mono (families26 _) ?_
  rintro _ w2 ⟨rfl, rfl⟩
  have HF := Lib.hid (Blk.new V 58 famCells)
  have HB1 := Lib.hid (HB.out.alloc HB.out.size (.cells famCells 58))
  have HL1 := Lib.hid (HL.out.alloc (.cells famCells 58))
  clear HB HL
  go_wp2_with fail
  generalize V.heap.size = F at *
  go_loopw [14] (fun v wr => ∃ j : Nat, j ≤ 1 ∧ v = .int .i64 (j : Int) ∧ Hid (Below w.heap.size w wr) ∧ Hid (Blk wr (w.heap.size + 1) 28 #[.int .i64 0, .int .i64 0, .slice none 0 0]) ∧ Hid (Blk wr F 58 famCells)) (fun v _ => 5 - (intOf v).toNat)
  case atStart => exact ⟨0, by omega, rfl, HB1, HL1, HF⟩
  case round =>
    obtain ⟨j, hj, rfl, hb, hl, hf⟩ := hrel
    clear HB1 HL1 HF
    rcases (show j = 0 ∨ j = 1 by omega) with rfl | rfl
    · skip
      have g0 : wr.cell? ⟨F, 0, none⟩ = some (.func (.func 42) #[] #[]) := cell_at hf.out rfl
      have g1 : wr.cell? ⟨F, 1, none⟩ = some (.func (.func 43) #[] #[]) := cell_at hf.out rfl
      have g2 : wr.cell? ⟨F, 2, none⟩ = some (.func (.func 44) #[] #[]) := cell_at hf.out rfl
      go_wp2_with fail
      clear g0 g1 g2
      refine upon_run (store3 wr _ _ _ 42 43 44) ?_
      have HN := Lib.hid (Blk.new wr 58 #[.func (.func 42) #[] #[], .func (.func 43) #[] #[], .func (.func 44) #[] #[]])
      have HB2 := Lib.hid (hb.out.alloc hb.out.size (.cells #[.func (.func 42) #[] #[], .func (.func 43) #[] #[], .func (.func 44) #[] #[]] 58))
      have hF2 := Lib.hid (hf.out.alloc (.cells #[.func (.func 42) #[] #[], .func (.func 43) #[] #[], .func (.func 44) #[] #[]] 58))
      have hL2 := Lib.hid (hl.out.alloc (.cells #[.func (.func 42) #[] #[], .func (.func 43) #[] #[], .func (.func 44) #[] #[]] 58))
      have k1 := cell_at HN.out (o := 1) (v := .func (.func 43) #[] #[]) rfl
      go_wp2_with fail
      refine Calls.mono (H0.out _) ?_
      rintro _ w3 ⟨rfl, q⟩
      clear k1
      have HB3 := Lib.hid ((HB2.out.trans (q.mono HB2.out.size)).alloc (Nat.le_trans HB2.out.size q.size) (.cells #[.int .i64 0, .int .i64 0, .slice none 0 0] 28))
      have hF3 := Lib.hid ((hF2.out.kept (q.block _ hF2.out.lt)).alloc (.cells #[.int .i64 0, .int .i64 0, .slice none 0 0] 28))
      have hL3 := Lib.hid ((hL2.out.kept (q.block _ hL2.out.lt)).alloc (.cells #[.int .i64 0, .int .i64 0, .slice none 0 0] 28))
      clear q HB2 hF2 hL2 HN
      go_wp2_with (refine wpList_store_row rfl 28 _ _ rfl w3.heap.size #[.int .i64 0, .int .i64 0, .slice none 0 0] rfl rfl 28 #[.int .i64 0, .int .i64 0, .slice none 0 0] (new_lies w3 _) (by kernel_rfl) rfl (by simp [Value.oneCell']) ?_; rw [World.setRow_alloc_new])
      exact ⟨⟨0 + 1, by omega, rfl, HB3, hL3, hF3⟩, by simp [intOf]⟩
    · skip
      have g0 : wr.cell? ⟨F, 3, none⟩ = some (.func (.func 45) #[] #[]) := cell_at hf.out rfl
      have g1 : wr.cell? ⟨F, 4, none⟩ = some (.func (.func 46) #[] #[]) := cell_at hf.out rfl
      have g2 : wr.cell? ⟨F, 5, none⟩ = some (.func (.func 47) #[] #[]) := cell_at hf.out rfl
      go_wp2_with fail
      clear g0 g1 g2
      refine upon_run (store3 wr _ _ _ 45 46 47) ?_
      have HN := Lib.hid (Blk.new wr 58 #[.func (.func 45) #[] #[], .func (.func 46) #[] #[], .func (.func 47) #[] #[]])
      have HB2 := Lib.hid (hb.out.alloc hb.out.size (.cells #[.func (.func 45) #[] #[], .func (.func 46) #[] #[], .func (.func 47) #[] #[]] 58))
      have hF2 := Lib.hid (hf.out.alloc (.cells #[.func (.func 45) #[] #[], .func (.func 46) #[] #[], .func (.func 47) #[] #[]] 58))
      have hL2 := Lib.hid (hl.out.alloc (.cells #[.func (.func 45) #[] #[], .func (.func 46) #[] #[], .func (.func 47) #[] #[]] 58))
      have k1 := cell_at HN.out (o := 1) (v := .func (.func 46) #[] #[]) rfl
      go_wp2_with fail
      refine Calls.mono (HH.out _ HB2.out) ?_
      rintro y w9 ⟨A9, n9, ca9, rfl, hn9, hA9, hF9, B9⟩
      clear k1
      have BXt := Lib.hid ((hL2.out.kept (B9.block _ hL2.out.lt)).alloc (.cells #[.int .i64 r, .int .i64 c, .slice A9 n9 ca9] 28))
      have HBt := Lib.hid ((HB2.out.trans (B9.mono HB2.out.size)).alloc (Nat.le_trans HB2.out.size B9.size) (.cells #[.int .i64 r, .int .i64 c, .slice A9 n9 ca9] 28))
      have HN9 := Lib.hid hn9
      have HF9 := Lib.hid (show ∀ a, A9 = some a → w.heap.size + 1 < a.block from fun a e => Nat.lt_of_lt_of_le hL2.out.lt (hF9 a e))
      have HA9 := Lib.hid (manyR_put3 (hA9.next ((Below.refl _ w9).alloc (Nat.le_refl _) (.cells #[.int .i64 r, .int .i64 c, .slice A9 n9 ca9] 28))) (X := w.heap.size + 1) (fun a e => by have := HF9.out a e; omega) (.int .i64 r) (.int .i64 c) (.slice A9 n9 ca9))
      have HZ9 := Lib.hid (Blk.new w9 28 #[.int .i64 r, .int .i64 c, .slice A9 n9 ca9])
      clear B9 hn9 hA9 hF9 hL2 HB2 HN
      have e0 := BXt.out.cell 0
      have e1 := BXt.out.cell 1
      have e2 := BXt.out.cell 2
      simp only [List.getElem?_toArray, List.getElem?_cons_zero, List.getElem?_cons_succ] at e0 e1 e2
      have f0 := BXt.out.frozen 0
      have f1 := BXt.out.frozen 1
      have f2 := BXt.out.frozen 2
      have lX := BXt.out.lt
      have z0 := HZ9.out.cell 0
      have z1 := HZ9.out.cell 1
      have z2 := HZ9.out.cell 2
      simp only [List.getElem?_toArray, List.getElem?_cons_zero, List.getElem?_cons_succ] at z0 z1 z2
      go_wp2_with fail
      change bodyPost _ _ _ _ _ (put3 (w9.alloc (.cells #[.int .i64 r, .int .i64 c, .slice A9 n9 ca9] 28)) (w.heap.size + 1) (.int .i64 r) (.int .i64 c) (.slice A9 n9 ca9))
      have bXt := Lib.hid (blk_put3 BXt.out (.int .i64 r) (.int .i64 c) (.slice A9 n9 ca9))
      have HBu := below_put3 HBt.out (Nat.le_succ _) (.int .i64 r) (.int .i64 c) (.slice A9 n9 ca9)
      generalize put3 (w9.alloc (.cells #[.int .i64 r, .int .i64 c, .slice A9 n9 ca9] 28)) (w.heap.size + 1) (.int .i64 r) (.int .i64 c) (.slice A9 n9 ca9) = W2 at *
      have d0 := bXt.out.cell 0
      have d1 := bXt.out.cell 1
      have d2 := bXt.out.cell 2
      simp only [List.getElem?_toArray, List.getElem?_cons_zero, List.getElem?_cons_succ] at d0 d1 d2
      exact bodyPost_ret (v := .tuple #[.agg #[.int .i64 r, .int .i64 c, .slice A9 n9 ca9], .bool true]) (by simp [results, Tryz.f16, go_sem, d0, d1, d2]) rfl ⟨_, _, _, rfl, HN9.out, HA9.out, fun a e => by have := HF9.out a e; omega, HBu⟩
theorem libSplit_c (t sep : ByteArray) (ht : t.size ≤ 255) (hsm : sep.size ≤ 255) (hs : 1 ≤ sep.size) (bG g1 g2 cG : Nat) (hcG : 2 ≤ cG) (w : World) (hG : Blk w bG 28 #[.int .i64 1, .int .i64 1, .slice (some ⟨g1, 0, none⟩) 1 1, .int .i64 1, .int .i64 1, .slice (some ⟨g2, 0, none⟩) 1 1]) (h1 : OneR w g1 (strV t)) (h2 : OneR w g2 (strV sep)) (hm : MaxT w) :
    Calls Tryz.prog 16 #[.agg #[], .string ⟨#[84, 69, 88, 84, 83, 80, 76, 73, 84]⟩, .slice (some ⟨bG, 0, none⟩) 2 cG] w (CallA w 1 (Lib.countB t sep + 1 : Nat) (splitV t sep)) := by
  letI : AM.Toks := AM.noToks
  refine lib_t _ bG cG _ _ _ w (fun W => AM.flat2_calls AM.amP_ok.1 AM.none2_fmath_TEXTSPLIT rfl bG cG hcG W) fun W hb => ?_
  refine callSplit_c (strV t) (strV sep) (AM.str_right t ht) (fits_str t) (AM.str_right sep hsm) (fits_str sep) bG g1 g2 cG W (hG.kept (hb.block _ hG.lt)) (h1.next hb) (h2.next hb) _ _ _ fun W2 hb2 => ?_
  have hb3 := hb.trans (hb2.mono hb.size)
  exact split_c t sep ht hs bG g1 g2 cG W2 (hG.kept (hb3.block _ hG.lt)) (h1.next hb3) (h2.next hb3) (hm.next hb3)
end Go.Proofs.YtdmbppgogdkpdaaGreatDoor
