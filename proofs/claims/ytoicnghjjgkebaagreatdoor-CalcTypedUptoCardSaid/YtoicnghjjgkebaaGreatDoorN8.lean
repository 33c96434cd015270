/-
  (*Sheet).inReadingOrder: its contract. Conditions: the sheet lies in memory, its axes are ready, all of them live; at most twelve cells.
  (*Sheet).Live: its walk goes through all cells that have a place, in some order. Conditions: as at its reading order.
  (*Axis).All's closure: its contract, for whatever a walk in new blocks leaves as it was. Condition: the axis lies in memory as AxisAt says.
  calc.places at an axis, all of it live: a map from each id to its place. Condition: the axis lies in memory as AxisAt says.
  calc.places at an axis, all of it live: its contract. Condition: the axis lies in memory as AxisAt says.
-/
import Derived.Test.YtoicnghjjgkebaaGreatDoorN5a
import Derived.Test.YtoicnghjjgkebaaGreatDoorH1
set_option linter.unusedSectionVars false
set_option linter.unusedSimpArgs false
set_option linter.unusedVariables false
set_option linter.unnecessarySimpa false
namespace Go.Proofs.YtoicnghjjgkebaaGreatDoor
open Go.RowKit Go.Shelf
attribute [local go_sem] Oper.semAt_some
def placed (ids jds : List Id) (x : Cel × Val) : Bool := decide (x.1.1 ∈ ids ∧ x.1.2 ∈ jds)
def lvs (ids jds : List Id) (l : List (Cel × Val)) : List Lv := (l.filter (placed ids jds)).map (lvOf ids jds)
/-- What is gathered lies in a row; its variable's box, the sheet's box. -/
structure RS (S : Nat) (ids jds : List Id) (w : World) (pre : List (Cel × Val)) (W : World) : Prop where
  box : Blk W w.heap.size 45 #[.pointer (some ⟨S, 0, none⟩)]
  ex : ∃ v, Blk W (w.heap.size + 1) 240 #[v] ∧ W.ownsRow (w.heap.size + 2) 243 35 v (lvs ids jds pre).length ((lvs ids jds pre).flatMap Lv.cs)
  b : Below w.heap.size w W
  sz : w.heap.size + 3 ≤ W.heap.size
theorem RS.stab (S : Nat) (ids jds : List Id) (w : World) : Stab CG1 (w.heap.size + 3) (RS S ids jds w) := fun s A B h k => by
  obtain ⟨v, h1, h2⟩ := h.ex
  refine ⟨k.kg.keep _ _ h.box trivial, ⟨v, k.kg.keep _ _ h1 trivial, ⟨h2.1, ?_⟩⟩, k.below h.b (by omega), Nat.le_trans h.sz k.kg.size⟩
  rcases h2.2 with h3 | ⟨g, cap, cur, hv, hb, hg, hr⟩
  · exact .inl h3
  · exact .inr ⟨g, cap, cur, hv, hb, k.kg.keep _ _ hg trivial, hr⟩
def ShG (o : Obj) : Prop := match o with
  | .cells _ e _ => e = 45
  | _ => False
theorem lvs_le (ids jds : List Id) (l : List (Cel × Val)) : (lvs ids jds l).length ≤ l.length := by unfold lvs; rw [List.length_map]; exact List.length_filter_le _ _
theorem lvs_perm {ids jds : List Id} {l m : List (Cel × Val)} (h : l.Perm m) : (lvs ids jds l).Perm (lvs ids jds m) := (h.filter _).map _
def OrdP (ids jds : List Id) (kvs : List (Cel × Val)) (w : World) (e : Ending) (w' : World) : Prop :=
  ∃ A c us, e = .returned (.slice A us.length c) ∧ us.Perm (lvs ids jds kvs) ∧ ((A = none ∧ us = []) ∨ ∃ g, A = some ⟨g, 0, none⟩ ∧ w.heap.size ≤ g ∧ Seg w' g (us.flatMap Lv.cs) ∧ ∃ cs, w'.heap[g]? = some (.cells cs 243 (0, 0))) ∧ Below w.heap.size w w'
set_option maxRecDepth 100000 in
set_option maxHeartbeats 4000000 in
theorem order_c (w : World) (own : Tags) (S pR pC pS pN : Nat) (ids jds : List Id) (m : Option Nat) (kvs : List (Cel × Val)) (h12 : kvs.length ≤ 12) (hS : ShB w S pR pC pS pN) (hP : Blk w pS 116 #[.map m]) (hM : StoM w m kvs) (h : AxR w own pR pC ids jds) :
    Calls Tryz.prog 122 #[.pointer (some ⟨S, 0, none⟩)] w (OrdP ids jds kvs w) := by
  have hb0 : Below w.heap.size w (w.alloc (.cells #[.pointer (some ⟨S, 0, none⟩)] 45)) := (Below.refl _ _).alloc (Nat.le_refl _) _
  have HW := Lib.hid (whole_c _ S pR pC pS pN (hS.kept (hb0.block _ hS.lt)))
  have hb1 := hb0.alloc (by simp) (.cells #[.slice none 0 0] 240)
  have HA := Lib.hid (sall_c (some ⟨pS, 0, none⟩) ((w.alloc (.cells #[.pointer (some ⟨S, 0, none⟩)] 45)).alloc (.cells #[.slice none 0 0] 240)))
  have hb2 := hb1.alloc (by simp; omega) (.cells #[.pointer (some ⟨pS, 0, none⟩)] 68)
  have x0 : Blk (((w.alloc (.cells #[.pointer (some ⟨S, 0, none⟩)] 45)).alloc (.cells #[.slice none 0 0] 240)).alloc (.cells #[.pointer (some ⟨pS, 0, none⟩)] 68)) w.heap.size 45 #[.pointer (some ⟨S, 0, none⟩)] :=
    ((Blk.new w _ _).kept (Below.heap_alloc _ _ _ (by simp))).kept (Below.heap_alloc _ _ _ (by simp; omega))
  have x1 : Blk (((w.alloc (.cells #[.pointer (some ⟨S, 0, none⟩)] 45)).alloc (.cells #[.slice none 0 0] 240)).alloc (.cells #[.pointer (some ⟨pS, 0, none⟩)] 68)) (w.heap.size + 1) 240 #[.slice none 0 0] := by
    have := Blk.new (w.alloc (.cells #[.pointer (some ⟨S, 0, none⟩)] 45)) 240 #[.slice none 0 0]
    rw [World.size_alloc] at this
    exact this.kept (Below.heap_alloc _ _ _ (by simp))
  have x2 : Blk (((w.alloc (.cells #[.pointer (some ⟨S, 0, none⟩)] 45)).alloc (.cells #[.slice none 0 0] 240)).alloc (.cells #[.pointer (some ⟨pS, 0, none⟩)] 68)) (w.heap.size + 2) 68 #[.pointer (some ⟨pS, 0, none⟩)] := by
    have := Blk.new ((w.alloc (.cells #[.pointer (some ⟨S, 0, none⟩)] 45)).alloc (.cells #[.slice none 0 0] 240)) 68 #[.pointer (some ⟨pS, 0, none⟩)]
    simpa using this
  have I0 : Hid (RS S ids jds w [] _) := Lib.hid ⟨x0, ⟨_, x1, World.ownsRow_nil _ _ _ _⟩, hb2, by simp⟩
  have HSQ := Lib.hid (all_seq 2 (by omega) _ pS m kvs h12 _ x2 (hP.kept (hb2.block _ hP.lt)) (hM.kept (fun b e => by subst e; exact hb2.block _ hM.lt)))
  have HPL := Lib.hid (fun W x y z u (hb : Below w.heap.size w W) => shplace_c W own S pR pC pS pN ids jds x y z u (hS.kept (hb.block _ hS.lt)) (h.below hb))
  have hsz : Hid ((((w.alloc (.cells #[.pointer (some ⟨S, 0, none⟩)] 45)).alloc (.cells #[.slice none 0 0] 240)).alloc (.cells #[.pointer (some ⟨pS, 0, none⟩)] 68)).heap.size = w.heap.size + 3) := Lib.hid (by simp)
  obtain ⟨⟨c0, c1, c2, c3⟩, -, -⟩ := (show Blk _ S 71 _ from hS.kept (hb1.block _ hS.lt)).four
  have h12 := Lib.hid h12
  clear hS hP hM h hb0 hb1 hb2 x0 x1 x2 c0 c1 c3
  refine (callsIn_wide (n := 3)).1 (callsIn_of_wp_marks Tryz.func122 rfl trivial ?_ rfl)
  simp only [Tryz.ntmps122, List.size_toArray, List.length_cons, List.length_nil, Nat.reduceAdd, Nat.reduceSub, Array.replicate_succ, Array.replicate_zero, List.push_toArray, List.append_toArray, List.nil_append, List.cons_append]
  refine wpIn_wide.2 ?_
  go_wp2_with fail
  refine HW.out.mono ?_
  rintro _ _ ⟨rfl, rfl⟩
  go_wp2_with fail
  refine HA.out.mono ?_
  rintro _ _ ⟨rfl, rfl⟩
  go_wp2_with fail
  clear HW HA
  generalize ((w.alloc _).alloc _).alloc _ = W0 at *
  refine (wpIn_wide (n := 3)).1 ?_
  obtain ⟨TM, hTM⟩ : ∃ TM : Value → Value → Value → Value → Array Value, TM = fun b4 b5 k v => #[.pointer (some ⟨S, 0, none⟩), .pointer (some ⟨w.heap.size, 0, none⟩), .slice none 0 0, .pointer (some ⟨w.heap.size + 1, 0, none⟩), b4, b5, undef, undef, undef, .pointer (some ⟨S, 0, none⟩), .bool true, .bool false, .pointer (some ⟨S, 0, none⟩), .pointer (some ⟨S, 0, none⟩), .pointer (some ⟨S, 2, none⟩), .pointer (some ⟨pS, 0, none⟩), .func (.func 251) #[] #[.pointer (some ⟨w.heap.size + 1 + 1, 0, none⟩)], k, v, undef, undef, undef, undef, undef, undef, undef, undef, undef, undef, undef, undef, undef, undef, undef, undef, undef, undef, undef] := ⟨_, rfl⟩
  refine range_own2 rfl (by omega) (gf := 251) (lb := #[.pointer (some ⟨w.heap.size + 1 + 1, 0, none⟩)]) rfl trivial (enters_of Tryz.func251 (by kernel_rfl) rfl) HSQ.out KG.trans (fun W l L o' _ h1 => KG.put (fun _ h => h) W l L o' h1) (fun _ => rfl)
    (RS S ids jds w) (fun _ _ _ => False) (by rw [hsz.out]; exact RS.stab S ids jds w) (fun _ _ _ _ h _ => h.elim) I0.out
    (fun x a' W => ∃ B4 B5, w.heap.size + 3 ≤ B4 ∧ w.heap.size + 3 ≤ B5 ∧ Blk W B4 29 x.1.cs.toArray ∧ Blk W B5 42 (ctc x.2).toArray ∧ a' = { tmps := TM (.pointer (some ⟨B4, 0, none⟩)) (.pointer (some ⟨B5, 0, none⟩)) (celv x.1) (ctv x.2), defers := [] })
    (fun x a' W l L o' hl ⟨B4, B5, h1, h2, h3, h4, h5⟩ => ⟨B4, B5, h1, h2, h3.kept (World.putObj_heap_other (fun e => by subst e; rw [h3] at hl; cases hl)), h4.kept (World.putObj_heap_other (fun e => by subst e; rw [h4] at hl; cases hl)), h5⟩) ?assign ?body ?done ?stop
  case assign =>
    rintro l pre ⟨⟨⟨x1, x2⟩, x3, x4⟩, v⟩ W K ci hK
    have HKK := Lib.hid hK
    clear hK
    simp only [celv, encA]
    have bl : Below W.heap.size W (W.alloc (.cells #[.int .i64 x1, .int .i64 x2, .int .i64 x3, .int .i64 x4] 29)) := (Below.refl _ _).alloc (Nat.le_refl _) _
    have BV := Lib.hid bl
    have HV := Lib.hid (Blk.new W 29 #[.int .i64 x1, .int .i64 x2, .int .i64 x3, .int .i64 x4])
    have HVs : Hid ((W.alloc (.cells #[.int .i64 x1, .int .i64 x2, .int .i64 x3, .int .i64 x4] 29)).heap.size = W.heap.size + 1) := Lib.hid (by simp)
    have HCI := Lib.hid ci
    have HC1 := Lib.hid (ctc_ones v)
    have HKF := Lib.hid (KeepsOthers.alloc W (.cells #[.int .i64 x1, .int .i64 x2, .int .i64 x3, .int .i64 x4] 29))
    clear ci bl
    have hl0 : Hid ((ctc v).length = 29) := Lib.hid rfl
    have hlz : Hid (ctZ.length = 29) := Lib.hid rfl
    gi_wp2_with (refine list_round (by rintro ⟨_, _, h⟩; exact h) _ _ _ (by kernel_rfl) ?_)
    go_wp2_with fail
    generalize W.alloc (.cells #[.int .i64 x1, .int .i64 x2, .int .i64 x3, .int .i64 x4] 29) = V at *
    have b2 : Below V.heap.size V (V.alloc (.cells (ctc v).toArray 42)) := (Below.refl _ _).alloc (Nat.le_refl _) _
    have b3 : Below W.heap.size W (V.alloc (.cells (ctc v).toArray 42)) := BV.out.trans (b2.mono BV.out.size)
    have HL : w.heap.size + 3 ≤ W.heap.size := HCI.out.sz
    have HF := Lib.hid (HKK.out { tmps := TM (.pointer (some ⟨W.heap.size, 0, none⟩)) (.pointer (some ⟨V.heap.size, 0, none⟩)) (celv ((x1, x2), (x3, x4))) (ctv v), defers := [] } _ ((HKF.out.trans (KeepsOthers.alloc _ _)).from _) (.of b3) (RS.stab S ids jds w _ _ _ HCI.out (.of b3))
      ⟨W.heap.size, V.heap.size, HL, by have := HVs.out; omega, HV.out.kept (b2.block _ HV.out.lt), Blk.new V _ _, rfl⟩)
    clear b2 b3 HL HKK HKF HVs HCI HV BV
    rw [hTM] at HF
    dsimp only at HF
    gi_wp2_with (refine list_round (by rintro ⟨_, _, h⟩; exact h) _ _ _ (by kernel_rfl) ?_)
    go_wp2_with (refine st_new cont_row rfl _ _ rfl (cs := ctc v) (z := ctZ) rfl rfl hl0.out hlz.out HC1.out ?_)
    exact HF.out
  case body =>
    rintro l pre ⟨⟨⟨x1, x2⟩, x3, x4⟩, v⟩ a' W hl ci ⟨B4, B5, hb4, hb5, h4, h5, rfl⟩ hlt
    have c0 := ci.box.cell 0
    have e0 := h4.cell 0
    have e1 := h4.cell 1
    have e2 := h4.cell 2
    have e3 := h4.cell 3
    simp only [Cel.cs, List.getElem?_toArray, List.getElem?_cons_zero, List.getElem?_cons_succ] at c0 e0 e1 e2 e3
    have HC := Lib.hid (fun n => CallsIn.inRound l (callsIn_wide (n := n) |>.2 (HPL.out W x1 x2 x3 x4 ci.b)))
    have H := Lib.hid (And.intro ci (And.intro h4 (And.intro h5 (And.intro hb4 hb5))))
    have HLT := Lib.hid hlt
    clear hl ci h4 h5 hb4 hb5 hlt HPL HSQ I0
    rw [hTM]
    dsimp only
    by_cases hp : (x1, x2) ∈ ids ∧ (x3, x4) ∈ jds
    · rw [show plC ids jds ((x1, x2), (x3, x4)) = _ from if_pos hp] at HC
      have HL := Lib.hid (show lvs ids jds (pre ++ [(((x1, x2), (x3, x4)), v)]) = lvs ids jds pre ++ [lvOf ids jds (((x1, x2), (x3, x4)), v)] by simp [lvs, placed, hp])
      gi_wp2
      refine ⟨trivial, CallsIn.mono (HC.out _) ?_⟩
      rintro _ W1 ⟨rfl, b1⟩
      obtain ⟨ci, h4, h5, hb4, hb5⟩ := H.out
      obtain ⟨vv, hB, hR⟩ := ci.ex
      have h41 := h4.kept (b1.block _ h4.lt)
      have h51 := h5.kept (b1.block _ h5.lt)
      have hB1 := hB.kept (b1.block _ hB.lt)
      have c0 := hB1.cell 0
      have e0 := h41.cell 0
      have e1 := h41.cell 1
      have e2 := h41.cell 2
      have e3 := h41.cell 3
      simp only [Cel.cs, List.getElem?_toArray, List.getElem?_cons_zero, List.getElem?_cons_succ] at c0 e0 e1 e2 e3
      have ld := Lib.hid (Seg.of h51).lies
      obtain ⟨y, hy⟩ : ∃ y, y = lvOf ids jds (((x1, x2), (x3, x4)), v) := ⟨_, rfl⟩
      have HY := Lib.hid hy
      have HYE := Lib.hid (show y = ⟨((ids.idxOf (x1, x2) : Nat) : Int), ((jds.idxOf (x3, x4) : Nat) : Int), ((x1, x2), (x3, x4)), ctc v, ctc_len _, ctc_ones _⟩ from hy)
      rw [← hy] at HL
      have bl : Below W1.heap.size W1 (W1.alloc (.cells y.cs.toArray 243)) := (Below.refl _ _).alloc (Nat.le_refl _) _
      have BL := Lib.hid (b1.trans (bl.mono b1.size))
      have HB1 := Lib.hid (ci.b.trans (BL.out.mono ci.b.size))
      have HR1 := Lib.hid (ownsRow_kept hR (fun g _ hg => BL.out.block g hg))
      have HX := Lib.hid (And.intro hB hR)
      have HLE := Lib.hid (show w.heap.size + 2 ≤ (W1.alloc (.cells y.cs.toArray 243)).heap.size from by have := ci.sz; have := b1.size; simp; omega)
      have HBX := Lib.hid (ci.box.kept (b1.block _ ci.box.lt))
      have HLN := Lib.hid (show (lvs ids jds pre).length < 100000000 by have h1 := lvs_le ids jds pre; have h2 := HLT.out; have h3 := h12.out; exact Nat.lt_of_le_of_lt h1 (by omega))
      obtain ⟨i0, hi, hz0, hz1, hz2⟩ := info_parts Tryz.infoL
      have hl0 : Hid ((ctc v).length = 29) := Lib.hid rfl
      clear b1 hB hR ci h4 h5 h41 h51 hB1
      gi_wp2_with (refine list_round (by rintro ⟨_, _, h⟩; exact h) _ _ _ (by kernel_rfl) ?_)
      go_wp2_with fail
      gi_wp2_with (refine list_round (by rintro ⟨_, _, h⟩; exact h) _ _ _ (by kernel_rfl) ?_)
      clear hy bl
      go_wp2_with (first | refine ld_step cont_row rfl _ rfl _ _ rfl hl0.out ld.out ?_ | refine wpList_build_live rfl _ _ _ _ rfl _ _ _ _ _ _ v rfl rfl rfl rfl HYE.out ?_ | refine wpList_bslice_live rfl _ rfl _ _ _ _ _ _ v HYE.out rfl ?_ | (refine app_pure (w0 := w) (f := Lv.cs) rfl _ _ _ rfl i0 _ 304 Tryz.underlying240 hi hz0 hz1 hz2 rfl (by omega) HB1.out (Nat.le_succ_of_le (Nat.le_succ _)) HLE.out HR1.out rfl W1.heap.size y rfl (Blk.new W1 _ _) y.length y.ones HLN.out (by omega) (fun v' w' b' r' g' => ?_); obtain ⟨A', c', rfl, -⟩ := ownsRow_shape r'; obtain ⟨q1, q2, q3, q4, q5, q6⟩ := boxed_app (Nat.lt_succ_self _) HX.out.1 HX.out.2 BL.out g' r'; rw [List.length_append, List.length_singleton] at q2 q3 q4 q5 q6; have d0 := q1.cell 0; have d1 := q1.frozen 0; have HQ9 := Lib.hid (And.intro q2 (And.intro q3 (And.intro q4 (And.intro q5 (And.intro q6 g'))))); clear q1 q2 q3 q4 q5 q6 b' r' g' c0 e0 e1 e2 e3))
      obtain ⟨q2, q3, q4, q5, q6, -⟩ := HQ9.out
      exact ⟨q4.from _, q5 AllG (fun _ _ h => by rcases h with h | h | h <;> cases h) (fun _ _ h => by rcases h with h | h | h <;> cases h),
        ⟨(q5 ShG (fun _ _ h => by cases h) (fun _ _ h => by cases h)).keep _ _ H.out.1.box rfl, ⟨_, q2, by rw [HL.out, List.length_append, List.length_singleton]; exact q3⟩, q6 w H.out.1.b (Nat.le_succ _), Nat.le_trans H.out.1.sz q4.size⟩⟩
    · rw [show plC ids jds ((x1, x2), (x3, x4)) = _ from if_neg hp] at HC
      have HL := Lib.hid (show lvs ids jds (pre ++ [(((x1, x2), (x3, x4)), v)]) = lvs ids jds pre by simp [lvs, placed, hp])
      gi_wp2
      refine ⟨trivial, CallsIn.mono (HC.out _) ?_⟩
      rintro _ W1 ⟨rfl, b1⟩
      have HB := Lib.hid b1
      clear b1
      gi_wp2
      have h2 := RS.stab S ids jds w _ _ _ H.out.1 (.of HB.out)
      exact ⟨(show KeepsOthers _ _ from ⟨HB.out.size, fun k o hk _ => (HB.out.block k (Array.getElem?_eq_some_iff.1 hk).1).trans hk⟩).from _, .of HB.out, ⟨h2.box, by rw [HL.out]; exact h2.ex, h2.b, h2.sz⟩⟩
  case done =>
    rintro DD xs W hD hS ci hK
    obtain ⟨v, hB, hR⟩ := ci.ex
    have c0 := hB.cell 0
    simp only [List.getElem?_toArray, List.getElem?_cons_zero] at c0
    have HD := Lib.hid (show w.heap.size + 3 ≤ DD by have := hsz.out; omega)
    have HLN := Lib.hid (show (lvs ids jds xs).length ≤ 12 by have h1 := lvs_le ids jds xs
                                                              have h2 := hS.length_eq; have h3 := h12.out; omega)
    have HPM := Lib.hid (lvs_perm (ids := ids) (jds := jds) hS)
    have H := Lib.hid (And.intro ci (And.intro hB hK))
    clear HPL HSQ I0 hsz hS ci hK hB c2
    rcases hR.2 with ⟨rfl, h0⟩ | ⟨g, cap, cur, rfl, hb, hg, -⟩
    · have HZ := Lib.hid (show lvs ids jds xs = [] from List.length_eq_zero_iff.1 h0)
      have HC := Lib.hid (sortlive_c [] none W 0 0 rfl (by omega) (.inl ⟨rfl, rfl, rfl⟩))
      clear hR h0
      dsimp only
      go_wp2_with fail
      refine HC.out.mono ?_
      rintro _ w2 ⟨rfl, hr⟩
      have hb2 : Below W.heap.size W w2 := by
        rcases hr with ⟨-, h⟩ | ⟨g, h, -⟩
        · exact h
        · cases h
      have HB2 := Lib.hid hb2
      have c0 := (H.out.2.1.kept (hb2.block _ H.out.2.1.lt)).cell 0
      have HK2 := Lib.hid ((hb2.block DD (Array.getElem?_eq_some_iff.1 H.out.2.2).1).trans H.out.2.2)
      simp only [List.getElem?_toArray, List.getElem?_cons_zero] at c0
      clear hr HC hb2
      go_wp2_with fail
      refine m_end rfl rfl rfl rfl HK2.out ⟨none, 0, [], rfl, by rw [← HZ.out]; exact HPM.out, .inl ⟨rfl, rfl⟩, (H.out.1.b.trans (HB2.out.mono H.out.1.b.size)).trans (belowPut _ _ (by have := HD.out; omega))⟩
    · have hS := seg_row hR
      have HC := Lib.hid (sortlive_c (lvs ids jds xs) (some ⟨g, 0, none⟩) W (lvs ids jds xs).length cap rfl HLN.out (.inr ⟨g, rfl, hS⟩))
      have HG := Lib.hid (And.intro hb hg)
      obtain ⟨n, hn⟩ : ∃ n, (lvs ids jds xs).length = n := ⟨_, rfl⟩
      rw [hn] at HC c0
      have HN := Lib.hid hn
      clear hR hS hb hg hn
      dsimp only
      go_wp2_with fail
      refine HC.out.mono ?_
      rintro _ w2 ⟨rfl, hr⟩
      have hr2 : SrtK Lv.cs g (lvs ids jds xs) W w2 := by
        rcases hr with ⟨h, -⟩ | ⟨g', h, hx⟩
        · cases h
        · cases h; exact hx
      have HR := Lib.hid hr2
      obtain ⟨us, p1, s1, cg, t1⟩ := hr2
      have c0 := (H.out.2.1.kept (cg.block _ H.out.2.1.lt (by have := HG.out.1; omega))).cell 0
      have HK2 := Lib.hid ((cg.block DD (Array.getElem?_eq_some_iff.1 H.out.2.2).1 (fun e => by have h1 := H.out.2.2; rw [e, HG.out.2] at h1; cases h1)).trans H.out.2.2)
      rw [HN.out] at c0
      simp only [List.getElem?_toArray, List.getElem?_cons_zero] at c0
      clear hr HC p1 s1 cg t1
      go_wp2_with fail
      obtain ⟨us, p1, s1, cg, t1⟩ := HR.out
      have hne : g ≠ DD := fun e => by have h1 := H.out.2.2; rw [← e, HG.out.2] at h1; cases h1
      refine m_end rfl rfl rfl rfl HK2.out ⟨some ⟨g, 0, none⟩, cap, us, by rw [p1.length_eq, HN.out]; rfl, p1.trans HPM.out, .inr ⟨g, rfl, by have := HG.out.1; omega, s1.kept (World.putObj_heap_other hne), _, (World.putObj_heap_other hne).trans (t1 _ _ _ _ HG.out.2).choose_spec⟩,
        (H.out.1.b.trans (cg.below (n := w.heap.size) H.out.1.b.size (fun k hk e => by have := HG.out.1; omega))).trans (belowPut _ _ (by have := HD.out; omega))⟩
  case stop =>
    rintro DD c pre W hD hS ci hK
    exact ci.elim
end Go.Proofs.YtoicnghjjgkebaaGreatDoor
namespace Go.Proofs.YtoicnghjjgkebaaGreatDoor
open Go.RowKit Go.Shelf
attribute [local go_sem] Oper.semAt_some
/-- A load of a whole struct, in a list of operations. -/
theorem listin_ld {T : TypeId} {k : Nat} (hT : RowT T k) {F : Fence} {n : Nat} {ops : Array Oper} {rest : List Oper} {o : Oper} {a : Act} {w : World} {Q : Exit → Act → World → Prop} (hF : F.round = none) (hw : Region.wanted o (yielded ops a.tmps) = true) (x : Operand) (ho : o.op = .load T x) (b off : Nat) (hx : a.eval x = .pointer (some ⟨b, off, none⟩)) {cs : List Value} (hl : cs.length = k) (hc : w.rangeAt b off cs)
    (h : wpListIn F n Tryz.prog ops Q rest (a.put o.dst (.agg cs.toArray)) w) : wpListIn F n Tryz.prog ops Q (o :: rest) a w :=
  BigFrame.wpListIn_want hw fun _ hK => opin_ld hT hF x ho b off hx hl hc (hK _ _ h)
theorem perm_map_ex {α β : Type} (f : α → β) {l l' : List β} (h : l.Perm l') : ∀ m : List α, l' = m.map f → ∃ m' : List α, m'.Perm m ∧ l = m'.map f := by
  induction h with
  | nil => intro m hm; exact ⟨m, .refl _, hm⟩
  | cons x h ih =>
    intro m hm
    cases m with
    | nil => cases hm
    | cons y m =>
      simp only [List.map_cons, List.cons.injEq] at hm
      obtain ⟨rfl, h2⟩ := hm
      obtain ⟨m', p, rfl⟩ := ih m h2
      exact ⟨y :: m', p.cons y, rfl⟩
  | swap x y l =>
    intro m hm
    match m, hm with
    | a :: b :: m, hm =>
      simp only [List.map_cons, List.cons.injEq] at hm
      obtain ⟨rfl, rfl, rfl⟩ := hm
      exact ⟨b :: a :: m, .swap _ _ _, rfl⟩
  | trans h1 h2 ih1 ih2 =>
    intro m hm
    obtain ⟨m1, p1, e1⟩ := ih2 m hm
    obtain ⟨m2, p2, e2⟩ := ih1 m1 e1
    exact ⟨m2, p2.trans p1, e2⟩
def LvZ : List Value := [.int .i64 0, .int .i64 0, .int .i64 0, .int .i64 0, .int .i64 0, .int .i64 0, .int .i64 0, .int .i64 0, .int .i64 0, .int .i64 0, .string ⟨#[]⟩, .bool false, .int .i64 0, .int .i64 0, .int .i64 0, .int .i64 0, .int .i64 0, .string ⟨#[]⟩, .bool false, .int .i64 0, .string ⟨#[]⟩, .int .i64 0, .int .i64 0, .int .i64 0, .int .i64 0, .bool false, .bool false, .int .i64 0, .int .i64 0, .int .i64 0, .int .i64 0, .bool false, .bool false, .int .i64 0, .slice none 0 0]
def LiveG (o : Obj) : Prop := match o with
  | .cells _ e _ => e = 243
  | _ => False
set_option maxRecDepth 100000 in
set_option maxHeartbeats 2000000 in
theorem slive_c (p : Option Addr) (w : World) : Calls Tryz.prog 66 #[.pointer p] w fun e w' => e = .returned (.func (.func 121) #[] #[.pointer (some ⟨w.heap.size, 0, none⟩)]) ∧ w' = w.alloc (.cells #[.pointer p] 45) := by
  go_enter Tryz.func66, Tryz.ntmps66
  go_wp2
  go_ret
  exact ⟨rfl, rfl⟩
/-- What the walk leans on: the row. -/
def LvI (ids jds : List Id) (A : Option Addr) (zs : List (Cel × Val)) (W : World) : Prop := zs = [] ∨ ∃ g, A = some ⟨g, 0, none⟩ ∧ Seg W g ((zs.map (lvOf ids jds)).flatMap Lv.cs) ∧ ∃ cs, W.heap[g]? = some (.cells cs 243 (0, 0))
theorem LvI.keep {ids jds : List Id} {A : Option Addr} {zs : List (Cel × Val)} {W W' : World} (h : LvI ids jds A zs W) (k : KG LiveG W W') : LvI ids jds A zs W' := by
  rcases h with h0 | ⟨g, rfl, hs, cs, hg⟩
  · exact .inl h0
  · exact .inr ⟨g, rfl, hs.kept ((k.keep _ _ hg rfl).trans hg.symm), cs, k.keep _ _ hg rfl⟩
set_option maxRecDepth 100000 in
set_option maxHeartbeats 4000000 in
theorem live_seq (n : Nat) (hn : 1 ≤ n) (own : Tags) (BX S pR pC pS pN : Nat) (ids jds : List Id) (m : Option Nat) (kvs : List (Cel × Val)) (h12 : kvs.length ≤ 12) (w : World) (hB : Blk w BX 45 #[.pointer (some ⟨S, 0, none⟩)]) (hS : ShB w S pR pC pS pN) (hP : Blk w pS 116 #[.map m]) (hM : StoM w m kvs) (h : AxR w own pR pC ids jds) :
    SeqQ Fence.wide n Tryz.prog 121 #[.pointer (some ⟨BX, 0, none⟩)] encA (KG LiveG) (fun xs => xs.Perm (kvs.filter (placed ids jds))) (fun _ => True) kvs.length w := by
  intro l J Jx W hW hJ hJx hY h0
  have c0 := (hB.kept (hW.block _ hB.lt)).cell 0
  have HO := Lib.hid (order_c W own S pR pC pS pN ids jds m kvs h12 (hS.kept (hW.block _ hS.lt)) (hP.kept (hW.block _ hP.lt)) (hM.kept (fun b e => by subst e; exact hW.block _ hM.lt)) (h.below hW))
  have HJ := Lib.hid hJ
  have HY := Lib.hid hY
  have H0 := Lib.hid h0
  have H12 := Lib.hid h12
  clear hJ hY h0 hJx hW hB hP hM h12 hS h
  refine callsIn_of_wp Tryz.func121 rfl trivial ?_ rfl
  simp only [Tryz.ntmps121, List.size_toArray, List.length_cons, List.length_nil, Nat.reduceAdd, Nat.reduceSub, Array.replicate_succ, Array.replicate_zero, List.push_toArray, List.append_toArray, List.nil_append, List.cons_append]
  refine wpIn_wide.2 ?_
  go_wp2_with fail
  refine HO.out.mono ?_
  rintro _ w2 ⟨A, c, us, rfl, hp, hA, hb2⟩
  obtain ⟨zs, hz, rfl⟩ := perm_map_ex (lvOf ids jds) hp _ rfl
  have HI : Hid (LvI ids jds A zs w2) := Lib.hid (by
    rcases hA with ⟨-, h⟩ | ⟨g, h1, -, h2, h3⟩
    · exact .inl (List.map_eq_nil_iff.1 h)
    · exact .inr ⟨g, h1, h2, h3⟩)
  have HZ := Lib.hid hz
  have HZL := Lib.hid (show zs.length ≤ kvs.length by rw [hz.length_eq]; exact List.length_filter_le _ _)
  have HJ2 := Lib.hid (HJ.out [] W w2 H0.out (.of hb2))
  rw [List.length_map]
  clear hp hA hb2 hz HO H0 c0
  go_wp2_with fail
  refine (wpIn_wide (n := n)).1 ?_
  gi_loopw [8] (fun iv wr => ∃ i : Nat, i ≤ zs.length ∧ iv = .int .i64 i ∧ Hid (J (zs.take i) wr) ∧ Hid (LvI ids jds A zs wr)) (fun iv _ => zs.length - (intOf iv).toNat)
  case atStart => exact ⟨0, Nat.zero_le _, rfl, HJ2, HI⟩
  case round =>
    clear HJ2 HI
    obtain ⟨i, hi, rfl, hJ, hI⟩ := hrel
    by_cases hlt : i < zs.length
    · have hlt2 : (i : Int) < (zs.length : Int) := by omega
      have h0 : (0 : Int) ≤ (i : Int) := by omega
      have HT := Lib.hid (List.take_succ_eq_append_getElem hlt)
      obtain ⟨g, rfl, hs, cs, hg⟩ := hI.out.resolve_left (fun e => by rw [e] at hlt; simp at hlt)
      have hr := Lib.hid (seg_el (f := Lv.cs) (k := 35) Lv.length hs (i := i) (u := lvOf ids jds zs[i]) (by rw [List.getElem?_map, List.getElem?_eq_getElem hlt]; rfl))
      generalize zs[i] = z at *
      obtain ⟨⟨⟨a1, a2⟩, a3, a4⟩, v⟩ := z
      obtain ⟨y, hy⟩ : ∃ y, y = lvOf ids jds (((a1, a2), (a3, a4)), v) := ⟨_, rfl⟩
      rw [← hy] at hr
      have hl0 : Hid (y.cs.length = 35) := Lib.hid y.length
      have HLT := Lib.hid (show (zs.take i).length < kvs.length by rw [List.length_take]; have := HZL.out; omega)
      have hlz : Hid (LvZ.length = 35) := Lib.hid rfl
      have hon := Lib.hid y.ones
      have bl : Below wr.heap.size wr (wr.alloc (.cells y.cs.toArray 243)) := (Below.refl _ _).alloc (Nat.le_refl _) _
      have HI1 := Lib.hid (hI.out.keep (.of bl))
      have HJ1 := Lib.hid (HJ.out _ _ _ hJ.out (.of bl))
      have HS := Seg.of (Blk.new wr 243 y.cs.toArray)
      have hx4 := Lib.hid (show (wr.alloc (.cells y.cs.toArray 243)).rangeAt wr.heap.size 2 [.int .i64 a1, .int .i64 a2, .int .i64 a3, .int .i64 a4] from HS.part (a := [_, _]) (c := ctc v) (by rw [hy]; rfl))
      have hx5 := Lib.hid (show (wr.alloc (.cells y.cs.toArray 243)).rangeAt wr.heap.size 6 (ctc v) from HS.part (a := [_, _, _, _, _, _]) (c := []) (by rw [hy]; rfl))
      have hl5 : Hid ((ctc v).length = 29) := Lib.hid rfl
      have hl4 : Hid ([Value.int .i64 a1, .int .i64 a2, .int .i64 a3, .int .i64 a4].length = 4) := Lib.hid rfl
      obtain ⟨fn, tmps, assign, body, hyy, hRR⟩ := HY.out (zs.take i) (((a1, a2), (a3, a4)), v) _ HJ1.out HLT.out
      have HRR := Lib.hid (hRR.mono (yield_two (Jx := Jx) (J := J) (x := (((a1, a2), (a3, a4)), v)) (pre := zs.take i) (W := wr.alloc (.cells y.cs.toArray 243))))
      unfold encA at hyy
      simp only [celv, ctv] at hyy
      clear bl HS hRR hs hg hJ hI hy
      refine wpIn_wide.2 ?_
      go_upto_region 3 with (first | refine ld_step live_row rfl _ rfl _ _ rfl hl0.out hr.out ?_ | refine st_new live_row rfl _ _ rfl (cs := y.cs) (z := LvZ) rfl rfl hl0.out hlz.out hon.out ?_)
      generalize wr.alloc (.cells y.cs.toArray 243) = V at *
      refine (wpIn_wide (n := n)).1 ?_
      gi_wp2_with (first | refine listin_ld cell_row rfl rfl _ rfl _ _ rfl hl4.out hx4.out ?_ | refine listin_ld cont_row rfl rfl _ rfl _ _ rfl hl5.out hx5.out ?_ | (refine HRR.out.mono ?_; rintro e W3 ⟨bb, rfl, hbb⟩))
      have h13 : i < zs.length := hlt
      have h14 : zs.length ≤ 12 := by have := HZL.out; have := H12.out; omega
      cases bb
      · have hx := hbb.out
        simp only [Bool.false_eq_true, if_false] at hx
        go_wp2_with fail
        refine bodyPost_ret (results_none rfl _ _ _) rfl ?_
        exact ⟨⟨_, rfl⟩, .inr ⟨_, trivial, hx⟩⟩
      · have hx := hbb.out
        simp only [if_true] at hx
        obtain ⟨hj3, hk3⟩ := hx
        have HJ3 := Lib.hid hj3
        have HI3 := Lib.hid (HI1.out.keep hk3)
        clear hj3 hk3 hbb
        go_wp2_with fail
        go_roundw
        case rel => exact ⟨i + 1, h13, by go_num, by rw [HT.out]; exact HJ3, HI3⟩
        case measure => simp [intOf]; omega
    · have hlt2 : ¬ (i : Int) < (zs.length : Int) := by omega
      have HE := Lib.hid (show zs.take i = zs from List.take_of_length_le (by omega))
      gi_wp2
      go_end0
      exact ⟨⟨_, rfl⟩, .inl ⟨zs, HZ.out, by rw [← HE.out]; exact hJ.out⟩⟩
end Go.Proofs.YtoicnghjjgkebaaGreatDoor
namespace Go.Proofs.YtoicnghjjgkebaaGreatDoor
open Go.RowKit Go.Shelf
attribute [local go_sem] Oper.semAt_some
set_option maxRecDepth 100000 in
set_option maxHeartbeats 4000000 in
theorem axis_in (n : Nat) (hn : 1 ≤ n) (l Bn p t : Nat) (own : Tags) (ids : List Id) (live : List Bool) (Fo : World → Nat → Prop) (hFo : FoOK Fo) (J Jx : List (Id × Bool) → World → Prop) (W : World)
    (hJ : ∀ s A B, J s A → Below A.heap.size A B → J s B) (hnew : ∀ W', Below W.heap.size W W' → ∀ k, W.heap.size ≤ k → Fo W' k)
    (hY : ∀ pre x W1, J pre W1 → pre.length < ids.length → YieldAt Fence.wide (n - 1) Tryz.prog l (pairv x) W1 fun e W' =>
      (e = .returned (.bool true) ∧ J (pre ++ [x]) W' ∧ KF Fo W1 W') ∨ (e = .returned (.bool false) ∧ Jx (pre ++ [x]) W'))
    (hBn : W.cell? ⟨Bn, 0, none⟩ = some (.pointer (some ⟨p, 0, none⟩))) (h : AxisAt W own t p ids live) (h0 : J [] W) :
    CallsIn Fence.wide n Tryz.prog 182 #[.func (.yield l) #[] #[], .pointer (some ⟨Bn, 0, none⟩)] W fun e W' => (∃ v, e = .returned v) ∧
      ((∃ ys, ys = ids.zip live ∧ J ys W') ∨ (∃ pre, pre <+: ids.zip live ∧ Jx pre W')) := by
  obtain ⟨vI, vL, vS, vA, vV, a⟩ := h.exI
  have hle := h.le
  have hlen := Lib.hid h.len
  obtain ⟨AI, cI, rfl, _⟩ := a.rI.form
  obtain ⟨AL, cL, rfl, _⟩ := a.rL.form
  have c0 := a.blk.cell 0
  have c1 := a.blk.cell 1
  simp only [List.getElem?_toArray, List.getElem?_cons_zero, List.getElem?_cons_succ] at c0 c1
  have HI := Lib.hid a.rI
  have HL := Lib.hid a.rL
  have HJ := Lib.hid hJ
  have HN := Lib.hid hnew
  have HY := Lib.hid hY
  have H0 := Lib.hid h0
  have HF := Lib.hid hFo
  clear hJ hnew hY h0 h a hFo
  refine callsIn_of_wp Tryz.func182 rfl trivial ?_ rfl
  simp only [Tryz.ntmps182, List.size_toArray, List.length_cons, List.length_nil, Nat.reduceAdd, Nat.reduceSub, Array.replicate_succ, Array.replicate_zero, List.push_toArray, List.append_toArray, List.nil_append, List.cons_append]
  gi_wp2
  refine wpIn_wide.2 ?_
  have C0 := Lib.hid (Kept.cons (own := fun _ => 0) (T := [0]) hBn (List.mem_singleton.2 rfl) (Kept.cons c0 (List.mem_singleton.2 rfl) (Kept.cons c1 (List.mem_singleton.2 rfl) Kept.nil)))
  refine rfree [0, 1, 2, 3, 5, 6, 7, 8] 4 (by kernel_rfl) (fun _ _ _ _ _ h => h) C0.out.drew.1 ?_
  intro hne hu; try simp only [AllCells] at hu
  simp only [pick, pk]
  repeat (go_big_quiet_step (fail))
  refine wpQuiet_nil ?_; clear hne hu
  refine anyN_oneL 4 (by kernel_rfl) ?_; simp only [pk]
  go_wp2_with fail
  have r0 := HI.out.keep (Same.drew (own := own) (s := t))
  have q0 := HL.out.keep (Same.drew (own := own) (s := t))
  refine (clone_c AI ids.length cI ids W.drew (fun _ => 0) 0 1 r0.toIdsR.2.plain rfl (by omega)).mono ?_
  rintro e w1 ⟨v, own1, rfl, tr1, row1⟩
  obtain ⟨BI, dI, hv, _⟩ := row1.form
  subst hv
  have C1 := Lib.hid (C0.out.drew.tr tr1 (by decide))
  have hb1 := tr1.toBelow (fun k _ => by decide)
  have q1 := Lib.hid (q0.keep (Same.below hb1))
  have T1 := Lib.hid tr1
  have R1 := Lib.hid row1
  clear tr1 row1 hb1 C0 q0 r0
  go_wp2_with fail
  refine And.intro (by first | exact fun _ => C1.out.1 | exact C1.out.1) ?_
  refine anyN_oneL 9 (by kernel_rfl) ?_; simp only [pk]
  go_wp2_with fail
  refine (bclone_c (.slice AL live.length cL) live.length live w1 own1 own t 2 q1.out (by rw [hlen.out]; omega)).mono ?_
  rintro e w2 ⟨v, own2, rfl, tr2, row2⟩
  obtain ⟨BL, dL, hv, _⟩ := row2.form
  subst hv
  rw [hlen.out] at row2 ⊢
  have C2 := Lib.hid (C1.out.tr tr2 (by decide))
  have T2 := Lib.hid tr2
  have R2 := Lib.hid row2
  clear tr2 row2 C1
  go_wp2_with fail
  refine And.intro (by first | exact fun _ => C2.out.1 | exact C2.out.1) ?_
  refine rmore [10, 11] 0 (by kernel_rfl) (fun _ _ _ _ _ h => h) C2.out.1 ?_
  intro hne hu; try simp only [AllCells] at hu
  simp only [pick, pk]
  repeat (go_big_quiet_step (fail))
  refine wpQuiet_nil ?_; clear hne hu
  refine ⟨by kernel_rfl, ?_⟩
  have hB2 : Below W.heap.size W w2 := ((Below.refl _ W).drew).trans (below_two T1.out T2.out)
  have I2 : Hid (Its Fo w2 BI BL ids live) := its_of (W := W.drew) (fun k hk => HN.out w2 hB2 k hk) T1.out R1.out T2.out (by have := R2.out; exact this)
  have J2 := Lib.hid (HJ.out [] W w2 H0.out hB2)
  clear hB2 T1 T2 R1 R2 C2 hBn c0 c1 H0 HI HL q1 HN
  gi_wp2
  gi_loopw [21] (fun i wr => ∃ k : Nat, k ≤ ids.length ∧ i = .int .i64 k ∧ Hid (J ((ids.zip live).take k) wr) ∧ Hid (Its Fo wr BI BL ids live)) (fun i _ => ids.length - (intOf i).toNat)
  case atStart => exact ⟨0, Nat.zero_le _, rfl, J2.out, I2.out⟩
  case round =>
    obtain ⟨k, hk, rfl, hJk, hIk⟩ := hrel
    clear J2 I2
    by_cases hlt : k < ids.length
    · have hlt2 : k < live.length := by rw [hlen.out]; exact hlt
      obtain ⟨b1, o1, rfl, _, _, hc1⟩ := hIk.out.ids (fun e => by rw [e] at hlt; simp at hlt)
      obtain ⟨b2, o2, rfl, _, _, hc2⟩ := hIk.out.live (fun e => by rw [e] at hlt2; simp at hlt2)
      obtain ⟨g1, g2⟩ := hc1 k hlt
      have g3 := hc2 k hlt2
      have hz := Lib.hid (zip_at (List.getElem?_eq_getElem hlt) (List.getElem?_eq_getElem hlt2))
      clear hc1 hc2
      generalize ids[k] = z at *
      generalize live[k] = b at *
      obtain ⟨z1, z2⟩ := z
      dsimp only at g1 g2
      have hk0 : (0 : Int) ≤ (k : Int) := by omega
      have hkn : (k : Int) < (ids.length : Int) := by omega
      gi_wp2
      have hJ5 := HJ.out _ _ (wr.alloc (Obj.cells #[Value.int IntKind.i64 z1, Value.int IntKind.i64 z2] 27)).drew hJk.out (((Below.refl _ _).alloc (Nat.le_refl _) _).drew)
      obtain ⟨fn, tmps, assign, body, hy, hR⟩ := HY.out _ ((z1, z2), b) _ hJ5 (by rw [List.length_take]; omega)
      have hR' := hR.mono (R' := fun e W' => ∃ bb, e = .returned (.bool bb) ∧ Hid (if bb then J ((ids.zip live).take k ++ [((z1, z2), b)]) W' ∧ KF Fo (wr.alloc (Obj.cells #[Value.int IntKind.i64 z1, Value.int IntKind.i64 z2] 27)).drew W' else Jx ((ids.zip live).take k ++ [((z1, z2), b)]) W')) (by
        rintro e W' (⟨rfl, h1, h2⟩ | ⟨rfl, h1⟩)
        · exact ⟨true, rfl, h1, h2⟩
        · exact ⟨false, rfl, h1⟩)
      have HR := Lib.hid hR'
      clear hR'
      unfold pairv at hy
      dsimp only at hy
      clear hR hJ5
      have hb2l := World.block_lt_of_cell? wr _ g3
      gi_region_with (refine HR.out.mono ?_; rintro e W3 ⟨bb, rfl, hbb⟩)
      all_goals
        simp only [Act.put, List.setIfInBounds_toArray, List.set_cons_succ, List.set_cons_zero]
        cases bb
        · have hx := hbb.out
          simp only [Bool.false_eq_true, if_false] at hx
          gi_wp2
          refine bodyPost_ret (results_none rfl _ _ _) rfl ?_
          exact ⟨⟨_, rfl⟩, .inr ⟨_, by rw [← hz.out]; exact List.take_prefix _ _, hx⟩⟩
        · have hx := hbb.out
          simp only [if_true] at hx
          obtain ⟨hj3, hk3⟩ := hx
          have HJ3 := Lib.hid hj3
          have HK3 := Lib.hid hk3
          clear hj3 hk3 hbb
          gi_wp2
          go_roundw
          case rel => exact ⟨k + 1, by omega, by go_num, by show J _ _; rw [hz.out]; exact HJ3.out, (hIk.out.keep (KF.below HF.out (((Below.refl _ _).alloc (Nat.le_refl _) _).drew))).keep HK3.out⟩
          case measure => simp [intOf]; omega
    · have hkk : k = ids.length := by omega
      subst hkk
      have hkn : ¬ ((ids.length : Int) < (ids.length : Int)) := by omega
      gi_wp2
      go_end0
      have e : (ids.zip live).take ids.length = ids.zip live := List.take_of_length_le (by rw [List.length_zip, hlen.out]; omega)
      have hj := hJk.out
      rw [e] at hj
      first | exact ⟨⟨_, rfl⟩, .inl hj⟩ | exact ⟨⟨_, rfl⟩, .inl ⟨_, rfl, hj⟩⟩
theorem axis_seq (n : Nat) (hn : 1 ≤ n) (Bn p t : Nat) (own : Tags) (ids : List Id) (live : List Bool) (Fo : World → Nat → Prop) (hFo : FoOK Fo) (w : World)
    (hnew : ∀ W', Below w.heap.size w W' → ∀ k, w.heap.size ≤ k → Fo W' k) (hBn : w.cell? ⟨Bn, 0, none⟩ = some (.pointer (some ⟨p, 0, none⟩))) (h : AxisAt w own t p ids live) :
    SeqQ Fence.wide n Tryz.prog 182 #[.pointer (some ⟨Bn, 0, none⟩)] pairv (KF Fo) (fun ys => ys = ids.zip live) (fun _ => True) ids.length w := fun l J Jx W hW hJ hJx hY h0 =>
  (axis_in n hn l Bn p t own ids live Fo hFo J Jx W (fun s A B h1 h2 => hJ s A B h1 (KQ.of h2)) (fun W' hW' k hk => hnew W' (hW.trans (hW'.mono hW.size)) k (Nat.le_trans hW.size hk)) hY ((hW.cell (p := ⟨Bn, 0, none⟩) (World.block_lt_of_cell? w _ hBn)).trans hBn) (h.keep (Same.below hW)) h0).mono
    (fun e w' ⟨h1, h2⟩ => ⟨h1, h2.imp id (fun ⟨pre, _, h3⟩ => ⟨pre, trivial, h3⟩)⟩)
end Go.Proofs.YtoicnghjjgkebaaGreatDoor
namespace Go.Proofs.YtoicnghjjgkebaaGreatDoor
open Go.RowKit Go.Shelf
attribute [local go_sem] Oper.semAt_some
@[go_sem ↓] theorem Tryz.makeN_map_api_Id_int (w : World) : (Instr.makeMap 127 none).run Tryz.prog w = .ok (.map (some w.heap.size)) (w.alloc (.map #[] 0)) := by kernel_rfl
@[go_sem ↓] theorem Tryz.makeN_map_calc_place_api_Value (w : World) : (Instr.makeMap 97 none).run Tryz.prog w = .ok (.map (some w.heap.size)) (w.alloc (.map #[] 0)) := by kernel_rfl
@[go_sem ↓] theorem Tryz.makeN_map_calc_place_int (w : World) : (Instr.makeMap 98 none).run Tryz.prog w = .ok (.map (some w.heap.size)) (w.alloc (.map #[] 0)) := by kernel_rfl
@[go_sem ↓] theorem Tryz.makeN_map_calc_place___int (w : World) : (Instr.makeMap 128 none).run Tryz.prog w = .ok (.map (some w.heap.size)) (w.alloc (.map #[] 0)) := by kernel_rfl
@[go_sem ↓] theorem Tryz.makeN_map_spill_place_bool (w : World) : (Instr.makeMap 149 none).run Tryz.prog w = .ok (.map (some w.heap.size)) (w.alloc (.map #[] 0)) := by kernel_rfl
@[go_sem ↓] theorem Tryz.makeN_map_spill_place_int (w : World) : (Instr.makeMap 151 none).run Tryz.prog w = .ok (.map (some w.heap.size)) (w.alloc (.map #[] 0)) := by kernel_rfl
@[go_sem ↓] theorem Tryz.makeN_map_spill_place_spill_Rect (w : World) : (Instr.makeMap 152 none).run Tryz.prog w = .ok (.map (some w.heap.size)) (w.alloc (.map #[] 0)) := by kernel_rfl
section
variable {K : Type} [DecidableEq K] {enc : K → Value} {T : TypeId}
variable {ops : Array Oper} {rest : List Oper} {o : Oper} {a : Act} {Q : Exit → Act → World → Prop}
theorem wpList_len_g {w : World} (hg : o.guard = none) (m : Operand) (M : TypeId) (hop : o.op = Op.call { callee := Callee.builtin Builtin.len, args := #[m], argTypes := #[M] }) (E : TypeId) (hT : Tryz.prog.underlying M = some (.map T E)) (s : Nat) (l : List (K × Value))
    (hm : a.eval m = .map (some s)) (h : MapG enc w s l) (hK : wpList Tryz.prog ops Q rest (a.put o.dst (.int .i64 l.length)) w) : wpList Tryz.prog ops Q (o :: rest) a w := by
  refine wpList_plain hg fun K' hK' => ?_
  have hrun := run_len_g h hT o.type
  unfold Oper.wp
  simp [execOp, hop, resolve, invoke, builtin, hm, hrun, Result.andThen]
  exact hK' _ _ hK
end
/-- What 'places' gathers. -/
def plM (l : List (Id × Bool)) : List (Id × Value) := l.foldl (fun m x => if x.2 then putG x.1 (.int .i64 (m.length : Nat)) m else m) []
theorem plM_snoc (l : List (Id × Bool)) (x : Id × Bool) : plM (l ++ [x]) = if x.2 then putG x.1 (.int .i64 ((plM l).length : Nat)) (plM l) else plM l := by simp [plM]
def spots (ids : List Id) : List (Id × Value) := ids.zipIdx.map fun p => (p.1, .int .i64 (p.2 : Nat))
theorem putG_fresh {K α : Type} [DecidableEq K] {k : K} {v : α} : ∀ {l : List (K × α)}, k ∉ l.map Prod.fst → putG k v l = l ++ [(k, v)]
  | [], _ => rfl
  | (q, u) :: l, h => by
    simp only [List.map_cons, List.mem_cons, not_or] at h
    rw [putG, if_neg (fun e => h.1 e.symm), putG_fresh h.2]
    rfl
theorem spots_fst (ids : List Id) : (spots ids).map Prod.fst = ids := by simp [spots, List.map_map, Function.comp_def]
theorem spots_len (ids : List Id) : (spots ids).length = ids.length := by simp [spots]
theorem snoc_of {α : Type} {l : List α} (h : 0 < l.length) : ∃ ks z, l = ks ++ [z] := by
  rcases List.eq_nil_or_concat l with rfl | ⟨ks, z, rfl⟩
  · cases h
  · exact ⟨ks, z, by simp⟩
theorem plM_all : ∀ (n : Nat) (ids : List Id), ids.length = n → ids.Nodup → plM (ids.zip (List.replicate n true)) = spots ids := by
  intro n
  induction n with
  | zero => intro ids h _; rw [List.length_eq_zero_iff.1 h]; rfl
  | succ n ih =>
    intro ids h hn
    obtain ⟨ks, z, rfl⟩ : ∃ ks z, ids = ks ++ [z] := snoc_of (by omega)
    have hk : ks.length = n := by simpa using h
    rw [List.nodup_append] at hn
    have e1 : (ks ++ [z]).zip (List.replicate (n + 1) true) = ks.zip (List.replicate n true) ++ [(z, true)] := by
      rw [List.replicate_succ', List.zip_append (by simpa using hk)]
      rfl
    rw [e1, plM_snoc, if_pos rfl, ih ks hk hn.1, putG_fresh (by rw [spots_fst]; intro hz; exact hn.2.2 z hz z (by simp) rfl), spots_len]
    simp [spots, List.zipIdx_append, hk]
theorem getG_spots (k : Id) (ids : List Id) (hn : ids.Nodup) : getG k (spots ids) = if k ∈ ids then some (.int .i64 (ids.idxOf k : Nat)) else none := by
  split
  · rename_i h
    refine getG_mem (by rw [spots_fst]; exact hn) ?_
    simp only [spots, List.mem_map]
    have hl := List.idxOf_lt_length_iff.2 h
    exact ⟨(k, ids.idxOf k), by rw [List.mem_zipIdx_iff_getElem?]; simp [List.getElem?_eq_getElem hl], rfl⟩
  · rename_i h
    exact getG_none (by rw [spots_fst]; exact h)
end Go.Proofs.YtoicnghjjgkebaaGreatDoor
namespace Go.Proofs.YtoicnghjjgkebaaGreatDoor
open Go.RowKit Go.Shelf
attribute [local go_sem] Oper.semAt_some
/-- What is gathered. -/
structure PS (w : World) (pre : List (Id × Bool)) (W : World) : Prop where
  box : Blk W (w.heap.size + 1) 127 #[.map (some w.heap.size)]
  map : MapG idv W w.heap.size (plM pre)
  b : Below w.heap.size w W
  sz : w.heap.size + 3 ≤ W.heap.size
theorem PS.stab (w : World) : Stab CG1 (w.heap.size + 3) (PS w) := fun s A B h k => by
  refine ⟨k.kg.keep _ _ h.box trivial, ?_, k.below h.b (by omega), Nat.le_trans h.sz k.kg.size⟩
  obtain ⟨es, c, h1, h2⟩ := h.map
  exact ⟨es, c, k.kg.keep _ _ h1 trivial, h2⟩
def PlP (w : World) (ids : List Id) (e : Ending) (w' : World) : Prop := ∃ M, e = .returned (.map (some M)) ∧ w.heap.size ≤ M ∧ MapG idv w' M (spots ids) ∧ Below w.heap.size w w'
set_option maxRecDepth 100000 in
set_option maxHeartbeats 4000000 in
theorem places_c (w : World) (own : Tags) (t p : Nat) (ids : List Id) (h : AxisAt w own t p ids (List.replicate ids.length true)) :
    Calls Tryz.prog 65 #[.pointer (some ⟨p, 0, none⟩)] w (PlP w ids) := by
  have hb1 := ((Below.refl w.heap.size w).alloc (Nat.le_refl _) (.map #[] 0)).alloc (by simp) (.cells #[.map (some w.heap.size)] 127)
  have HA := Lib.hid (all_c (some ⟨p, 0, none⟩) ((w.alloc (.map #[] 0)).alloc (.cells #[.map (some w.heap.size)] 127)))
  have hb2 := hb1.alloc (by simp; omega) (.cells #[.pointer (some ⟨p, 0, none⟩)] 67)
  have x0 : MapG idv (((w.alloc (.map #[] 0)).alloc (.cells #[.map (some w.heap.size)] 127)).alloc (.cells #[.pointer (some ⟨p, 0, none⟩)] 67)) w.heap.size (plM []) :=
    ((MapG.made (enc := idv) w).kept (Below.heap_alloc _ _ _ (by simp))).kept (Below.heap_alloc _ _ _ (by simp; omega))
  have x1 : Blk (((w.alloc (.map #[] 0)).alloc (.cells #[.map (some w.heap.size)] 127)).alloc (.cells #[.pointer (some ⟨p, 0, none⟩)] 67)) (w.heap.size + 1) 127 #[.map (some w.heap.size)] := by
    have := Blk.new (w.alloc (.map #[] 0)) 127 #[.map (some w.heap.size)]
    rw [World.size_alloc] at this
    exact this.kept (Below.heap_alloc _ _ _ (by simp))
  have x2 : Blk (((w.alloc (.map #[] 0)).alloc (.cells #[.map (some w.heap.size)] 127)).alloc (.cells #[.pointer (some ⟨p, 0, none⟩)] 67)) (w.heap.size + 2) 67 #[.pointer (some ⟨p, 0, none⟩)] := by
    have := Blk.new ((w.alloc (.map #[] 0)).alloc (.cells #[.map (some w.heap.size)] 127)) 67 #[.pointer (some ⟨p, 0, none⟩)]
    simpa using this
  have I0 : Hid (PS w [] _) := Lib.hid ⟨x1, x0, hb2, by simp⟩
  have HSQ := Lib.hid (axis_seq 2 (by omega) _ p t own ids _ (fun _ k => w.heap.size + 3 ≤ k) (fun _ _ _ _ h _ _ => h) _ (fun _ _ k hk => by simpa using hk) (x2.cell 0) (h.keep (Same.below hb2)))
  have hsz : Hid ((((w.alloc (.map #[] 0)).alloc (.cells #[.map (some w.heap.size)] 127)).alloc (.cells #[.pointer (some ⟨p, 0, none⟩)] 67)).heap.size = w.heap.size + 3) := Lib.hid (by simp)
  have HN := Lib.hid (And.intro h.le h.nodup)
  clear h hb1 hb2 x0 x1 x2
  refine (callsIn_wide (n := 3)).1 (callsIn_of_wp_marks Tryz.func65 rfl trivial ?_ rfl)
  simp only [Tryz.ntmps65, List.size_toArray, List.length_cons, List.length_nil, Nat.reduceAdd, Nat.reduceSub, Array.replicate_succ, Array.replicate_zero, List.push_toArray, List.append_toArray, List.nil_append, List.cons_append]
  refine wpIn_wide.2 ?_
  go_wp2_with fail
  refine HA.out.mono ?_
  rintro _ _ ⟨rfl, rfl⟩
  go_wp2_with fail
  clear HA
  generalize ((w.alloc _).alloc _).alloc _ = W0 at *
  refine (wpIn_wide (n := 3)).1 ?_
  have hFo : FoOK (fun _ k => w.heap.size + 3 ≤ k) := fun _ _ _ _ h _ _ => h
  obtain ⟨TM, hTM⟩ : ∃ TM : Value → Value → Value → Value → Array Value, TM = fun b4 b5 k v => #[.pointer (some ⟨p, 0, none⟩), undef, .map none, .pointer (some ⟨w.heap.size + 1, 0, none⟩), b4, b5, .map (some w.heap.size), .pointer (some ⟨p, 0, none⟩), .func (.func 182) #[] #[.pointer (some ⟨w.heap.size + 1 + 1, 0, none⟩)], k, v, undef, undef, undef, undef, undef, undef] := ⟨_, rfl⟩
  refine range_own2 rfl (by omega) (gf := 182) (lb := #[.pointer (some ⟨w.heap.size + 1 + 1, 0, none⟩)]) rfl trivial (enters_of Tryz.func182 (by kernel_rfl) rfl) HSQ.out KF.trans (fun W l L o' _ h1 => KF.put hFo W l _ o' h1 rfl) (fun _ => rfl)
    (PS w) (fun _ _ _ => False) (by rw [hsz.out]; exact PS.stab w) (fun _ _ _ _ h _ => h.elim) I0.out
    (fun x a' W => ∃ B4, w.heap.size + 3 ≤ B4 ∧ Blk W B4 27 #[.int .i64 x.1.1, .int .i64 x.1.2] ∧ a' = { tmps := TM (.pointer (some ⟨B4, 0, none⟩)) (.bool x.2) (idv x.1) (.bool x.2), defers := [] })
    (fun x a' W l L o' hl ⟨B4, h1, h3, h5⟩ => ⟨B4, h1, h3.kept (World.putObj_heap_other (fun e => by subst e; rw [h3] at hl; cases hl)), h5⟩) ?assign ?body ?done ?stop
  case assign =>
    rintro l pre ⟨⟨x1, x2⟩, b⟩ W K ci hK
    have bl : Below W.heap.size W (W.alloc (.cells #[.int .i64 x1, .int .i64 x2] 27)) := (Below.refl _ _).alloc (Nat.le_refl _) _
    have HF := Lib.hid (hK { tmps := TM (.pointer (some ⟨W.heap.size, 0, none⟩)) (.bool b) (idv (x1, x2)) (.bool b), defers := [] } _ ((KeepsOthers.alloc _ _).from _) (KF.below hFo bl) (PS.stab w _ _ _ ci (.of bl)) ⟨W.heap.size, ci.sz, Blk.new W _ _, rfl⟩)
    clear hK ci bl
    rw [hTM] at HF
    dsimp only [idv] at HF
    simp only [pairv]
    gi_wp2
    exact HF.out
  case body =>
    rintro l pre ⟨⟨x1, x2⟩, b⟩ a' W hl ci ⟨B4, hb4, h4, rfl⟩ hlt
    have c0 := ci.box.cell 0
    have e0 := h4.cell 0
    have e1 := h4.cell 1
    simp only [List.getElem?_toArray, List.getElem?_cons_zero, List.getElem?_cons_succ] at c0 e0 e1
    have H := Lib.hid ci
    have HM := Lib.hid ci.map
    clear hl ci h4 hb4 hlt HSQ I0
    rw [hTM]
    dsimp only [idv]
    cases b
    · have HP := Lib.hid (show plM (pre ++ [((x1, x2), false)]) = plM pre by rw [plM_snoc]; rfl)
      gi_wp2
      exact ⟨.refl _ _, KF.below hFo (Below.refl _ _), ⟨H.out.box, by rw [HP.out]; exact H.out.map, H.out.b, H.out.sz⟩⟩
    · have HP := Lib.hid (show plM (pre ++ [((x1, x2), true)]) = putG (x1, x2) (.int .i64 ((plM pre).length : Nat)) (plM pre) by rw [plM_snoc]; rfl)
      gi_wp2_with (refine list_round (by rintro ⟨_, _, h⟩; exact h) _ _ _ (by kernel_rfl) ?_)
      go_wp2_with (first | refine wpList_len_g rfl _ _ rfl _ Tryz.underlying127 _ _ rfl HM.out ?_ | (refine wpList_mapUpdate_g keyId _ rfl _ _ _ _ rfl _ Tryz.underlying127 _ _ rfl HM.out (x1, x2) _ rfl rfl ?_; intro w3 hm3 hg3 hs3; clear c0 e0 e1))
      refine ⟨KeepsFrom.of_grownBy hg3.out (fun j e => by cases e; have := hsz.out; omega), fun k cs e m hk hf => ⟨hg3.out.block k (Array.getElem?_eq_some_iff.1 hk).1 (fun e2 => by cases e2; omega), hf⟩, ⟨H.out.box.kept (hg3.out.block _ H.out.box.lt (fun e2 => by have := Option.some.inj e2; omega)), by rw [HP.out]; exact hm3.out, below_grew H.out.b hg3.out (fun k e => by cases e; exact Nat.le_refl _), by rw [hs3.out]; exact H.out.sz⟩⟩
  case done =>
    rintro DD xs W hD hS ci hK
    have c0 := ci.box.cell 0
    have HD := Lib.hid (show w.heap.size + 3 ≤ DD by have := hsz.out; omega)
    have H := Lib.hid (And.intro hS (And.intro ci hK))
    have HNN := HN
    clear HSQ I0 hsz hS ci hK HN
    dsimp only
    go_wp2_with fail
    have hm := H.out.2.1.map
    rw [H.out.1, plM_all _ _ rfl HNN.out.2] at hm
    refine m_end rfl rfl rfl rfl H.out.2.2 ⟨_, rfl, Nat.le_refl _, hm.kept (World.putObj_heap_other (by have := HD.out; omega)), H.out.2.1.b.trans (belowPut _ _ (by have := HD.out; omega))⟩
  case stop =>
    rintro DD c pre W hD hS ci hK
    exact ci.elim
end Go.Proofs.YtoicnghjjgkebaaGreatDoor
