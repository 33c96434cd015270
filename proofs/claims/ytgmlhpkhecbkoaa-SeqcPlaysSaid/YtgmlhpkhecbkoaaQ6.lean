/-
  (*Axis).Clone: its contract. Condition: the axis lies in memory as AxisAt says.
-/
import Derived.Test.YtgmlhpkhecbkoaaQ5
namespace Go.Proofs.Ytgmlhpkhecbkoaa
open Go.RowKit Go.Shelf

attribute [local go_sem] Oper.semAt_some

/-- A clone is handed back: an axis q of its own, with the tag u. -/
def CloneP (w : World) (own : Tags) (u : Nat) (ids : List Id) (live : List Bool) (e : Ending) (w' : World) : Prop :=
  ∃ own' q, e = .returned (.pointer (some ⟨q, 0, none⟩)) ∧ Tr own u w own' w' ∧ w.heap.size ≤ q ∧ AxisAt w' own' u q ids live

theorem map_zip1 {ids : List Id} {live : List Bool} (h : live.length = ids.length) : (ids.zip live).map Prod.fst = ids := by
  induction ids generalizing live with
  | nil => simp
  | cons x ids ih =>
    match live, h with
    | l :: live, h => simp [ih (live := live) (by simpa using h)]
theorem map_zip2 {ids : List Id} {live : List Bool} (h : live.length = ids.length) : (ids.zip live).map Prod.snd = live := by
  induction ids generalizing live with
  | nil =>
    have : live = [] := by simpa using h
    subst this; simp
  | cons x ids ih =>
    match live, h with
    | l :: live, h => simp [ih (live := live) (by simpa using h)]

set_option maxRecDepth 100000 in
set_option maxHeartbeats 4000000 in
theorem clone43_c (w : World) (own : Tags) (t u p : Nat) (ids : List Id) (live : List Bool) (ha : AxisAt w own t p ids live) :
    Calls Try.prog 43 #[.pointer (some ⟨p, 0, none⟩)] w (CloneP w own u ids live) := by
  have HA := Lib.hid ha
  clear ha
  refine (callsIn_wide (n := 3)).1 (callsIn_of_wp_marks Try.func43 rfl trivial ?_ rfl)
  simp only [Try.ntmps43, List.size_toArray, List.length_cons, List.length_nil, Nat.reduceAdd, Nat.reduceSub, Array.replicate_succ, Array.replicate_zero, List.push_toArray, List.append_toArray, List.nil_append, List.cons_append]
  refine wpIn_wide.2 ?_
  go_wp2_with fail
  refine (all_c _ _).mono ?_
  rintro e w1 ⟨rfl, rfl⟩
  go_wp2_with fail
  have hq0 : Blk (((w.alloc (.cells #[.slice none 0 0, .slice none 0 0, .map none, .slice none 0 0, .slice none 0 0] 73)).alloc (.cells #[.pointer (some ⟨w.heap.size, 0, none⟩)] 26)).alloc (.cells #[.pointer (some ⟨p, 0, none⟩)] 26)) w.heap.size 73 #[.slice none 0 0, .slice none 0 0, .map none, .slice none 0 0, .slice none 0 0] := ((Blk.new w 73 _).alloc _).alloc _
  have hb0 : Blk (((w.alloc (.cells #[.slice none 0 0, .slice none 0 0, .map none, .slice none 0 0, .slice none 0 0] 73)).alloc (.cells #[.pointer (some ⟨w.heap.size, 0, none⟩)] 26)).alloc (.cells #[.pointer (some ⟨p, 0, none⟩)] 26)) (w.heap.size + 1) 26 #[.pointer (some ⟨w.heap.size, 0, none⟩)] := by
    have := (Blk.new (w.alloc (.cells #[.slice none 0 0, .slice none 0 0, .map none, .slice none 0 0, .slice none 0 0] 73)) 26 #[.pointer (some ⟨w.heap.size, 0, none⟩)]).alloc (.cells #[.pointer (some ⟨p, 0, none⟩)] 26)
    simpa using this
  have ha0 : Hid ((((w.alloc (.cells #[.slice none 0 0, .slice none 0 0, .map none, .slice none 0 0, .slice none 0 0] 73)).alloc (.cells #[.pointer (some ⟨w.heap.size, 0, none⟩)] 26)).alloc (.cells #[.pointer (some ⟨p, 0, none⟩)] 26)).cell? ⟨w.heap.size + 1 + 1, 0, none⟩ = some (.pointer (some ⟨p, 0, none⟩))) := by
    have := (Blk.new ((w.alloc (.cells #[.slice none 0 0, .slice none 0 0, .map none, .slice none 0 0, .slice none 0 0] 73)).alloc (.cells #[.pointer (some ⟨w.heap.size, 0, none⟩)] 26)) 26 #[.pointer (some ⟨p, 0, none⟩)]).cell 0
    show _ = _
    simpa using this
  have c0 : Hid (CI w own u (w.heap.size + 1) w.heap.size [] [] (tagAt own w.heap.size u) (.slice none 0 0) (.slice none 0 0) (((w.alloc (.cells #[.slice none 0 0, .slice none 0 0, .map none, .slice none 0 0, .slice none 0 0] 73)).alloc (.cells #[.pointer (some ⟨w.heap.size, 0, none⟩)] 26)).alloc (.cells #[.pointer (some ⟨p, 0, none⟩)] 26))) := by
    refine ⟨((((Tr.refl own u w).alloc _).tag (Nat.le_refl _) (by simp) u).alloc _).alloc _, hb0, by simp [tagAt], hq0, ?_, ?_⟩
    · simpa [idCells] using Row.nil _ _ u 24 2
    · simpa [boolCells] using Row.nil _ _ u 4 1
  have hB0 : Hid (Below w.heap.size w (((w.alloc (.cells #[.slice none 0 0, .slice none 0 0, .map none, .slice none 0 0, .slice none 0 0] 73)).alloc (.cells #[.pointer (some ⟨w.heap.size, 0, none⟩)] 26)).alloc (.cells #[.pointer (some ⟨p, 0, none⟩)] 26))) := (((Below.refl _ w).alloc (Nat.le_refl _) _).alloc (by simp) _).alloc (by simp; omega) _
  have hsz : (((w.alloc (.cells #[.slice none 0 0, .slice none 0 0, .map none, .slice none 0 0, .slice none 0 0] 73)).alloc (.cells #[.pointer (some ⟨w.heap.size, 0, none⟩)] 26)).alloc (.cells #[.pointer (some ⟨p, 0, none⟩)] 26)).heap.size = w.heap.size + 3 := by simp
  clear hq0 hb0
  generalize (((w.alloc (.cells #[.slice none 0 0, .slice none 0 0, .map none, .slice none 0 0, .slice none 0 0] 73)).alloc (.cells #[.pointer (some ⟨w.heap.size, 0, none⟩)] 26)).alloc (.cells #[.pointer (some ⟨p, 0, none⟩)] 26)) = W0 at *
  refine (wpIn_wide (n := 3)).1 ?_
  refine wpIn_rangeFunc_ownH rfl (by omega) (gf := 70) (lb := #[.pointer (some ⟨w.heap.size + 1 + 1, 0, none⟩)]) rfl trivial (enters_of Try.func70 (by kernel_rfl) rfl)
    (all70_stops 2 (by omega) (w.heap.size + 1 + 1) p t own ids live (Fo43 (w.heap.size + 1) w.heap.size) (fo43_ok _ _) W0 (fun W' hW' k hk => c0.out.foreign hk W' hW') ha0.out (HA.out.keep (Same.below hB0.out))) KF.trans (fun W l o o' _ h1 h2 _ => KF.put (fo43_ok _ _) W l o o' h1 h2) (Below.refl _ _) (fun _ => rfl)
    (fun pre W => ∃ own1 vI vL, CI w own u (w.heap.size + 1) w.heap.size (pre.map Prod.fst) (pre.map Prod.snd) own1 vI vL W) (fun _ _ _ => False)
    (fun pre W W' row hs hg hr => by
      obtain ⟨own1, vI, vL, ci⟩ := hs
      exact ⟨own1, vI, vL, ci.grow (by omega) hg hr⟩) (fun _ _ _ _ _ hs _ _ => hs) ⟨_, _, _, c0.out⟩
    (fun x a' W => ∃ Bx, Fo43 (w.heap.size + 1) w.heap.size W Bx ∧ Blk W Bx 24 #[.int .i64 x.1.1, .int .i64 x.1.2] ∧ a' = { tmps := #[.pointer (some ⟨p, 0, none⟩), undef, .pointer none, .pointer (some ⟨w.heap.size + 1, 0, none⟩), .pointer (some ⟨Bx, 0, none⟩), .bool x.2, .agg #[.slice none 0 0, .slice none 0 0, .map none, .slice none 0 0, .slice none 0 0], .pointer (some ⟨w.heap.size, 0, none⟩), .pointer (some ⟨p, 0, none⟩), .func (.func 70) #[] #[.pointer (some ⟨w.heap.size + 1 + 1, 0, none⟩)], .agg #[.int .i64 x.1.1, .int .i64 x.1.2], .bool x.2, undef, undef, undef, undef, undef, undef, undef, undef, undef, undef, undef, undef, undef, undef, undef, undef, undef, undef, undef, undef, undef], defers := [] })
    (fun x a' _ W W' row hs hg hr => by
      obtain ⟨Bx, h1, h2, h3⟩ := hs
      exact ⟨Bx, fo43_ok _ _ W W' row Bx h1 hg (fun r e => (hr r e).2), h2.own hg (fun r e => (hr r e).2), h3⟩) ?assign ?body ?done ?stop
  case assign =>
    rintro l pre x W K ⟨own1, vI, vL, ci⟩ hK
    unfold pairv
    gi_wp2
    exact hK _ _ ((KeepsOthers.alloc _ _).from _) (KF.below (fo43_ok _ _) ((Below.refl _ W).alloc (Nat.le_refl _) _)) ⟨own1, vI, vL, ci.next ((Below.refl _ W).alloc (Nat.le_refl _) _)⟩ ⟨W.heap.size, ci.foreign (Nat.le_refl _) _ ((Below.refl _ W).alloc (Nat.le_refl _) _), Blk.new W 24 _, rfl⟩
  case body =>
    rintro l pre x a' W hl ⟨r, hr⟩ ⟨own1, vI, vL, ci⟩ ⟨Bx, hf, bX, rfl⟩ hlt
    obtain ⟨⟨z1, z2⟩, xb⟩ := x
    dsimp only at bX ⊢
    have hle := HA.out.le
    have hn1 : (pre.map Prod.fst).length = (pre.map Prod.snd).length := by simp
    have hn2 : (pre.map Prod.fst).length < 1000 := by simp; omega
    have hmap := Lib.hid (show (pre ++ [((z1, z2), xb)]).map Prod.fst = pre.map Prod.fst ++ [(z1, z2)] ∧ (pre ++ [((z1, z2), xb)]).map Prod.snd = pre.map Prod.snd ++ [xb] by simp)
    generalize pre.map Prod.fst = I0 at *
    generalize pre.map Prod.snd = L0 at *
    obtain ⟨AI, cI, rfl, _⟩ := ci.ax.rI.form
    obtain ⟨AL, cL, rfl, _⟩ := ci.ax.rL.form
    have c0 := ci.ax.blk.cell 0
    have c1 := ci.ax.blk.cell 1
    have cb := ci.box.cell 0
    have e0 := bX.cell 0
    have e1 := bX.cell 1
    simp only [List.getElem?_toArray, List.getElem?_cons_zero, List.getElem?_cons_succ] at c0 c1 cb e0 e1
    have HC : AllCells W.drew [(⟨w.heap.size + 1, 0, none⟩, .pointer (some ⟨w.heap.size, 0, none⟩)), (⟨w.heap.size, 0, none⟩, .slice AI I0.length cI), (⟨Bx, 0, none⟩, .int .i64 z1), (⟨Bx, 1, none⟩, .int .i64 z2)] := ⟨cb, c0, e0, e1, trivial⟩
    have bl1 : Below W.heap.size W (W.alloc (.cells #[.int .i64 z1, .int .i64 z2] 24)).drew := ((Below.refl _ W).alloc (Nat.le_refl _) _).drew
    have ci1 := Lib.hid (ci.next bl1)
    have HF := Lib.hid (show (Value.slice AI I0.length cI).ownBlock ≠ some Bx by
      obtain ⟨_, _, uI, uL, f3, f4, _⟩ := hf
      have he : uI = .slice AI I0.length cI ∧ uL = .slice AL L0.length cL := by
        have := f3.symm.trans ci.ax.blk
        simpa using this
      rw [← he.1]; exact f4)
    have BX := Lib.hid (bX.kept (bl1.block Bx bX.lt))
    have S1 : AllCells (W.alloc (.cells #[.int .i64 z1, .int .i64 z2] 24)).drew [(⟨w.heap.size + 1, 0, none⟩, .pointer (some ⟨w.heap.size, 0, none⟩)), (⟨w.heap.size, 0, none⟩, .slice AI I0.length cI), (⟨Bx, 0, none⟩, .int .i64 z1), (⟨Bx, 1, none⟩, .int .i64 z2)] := AllCells.below (show AllCells W _ from HC) bl1
    obtain ⟨i0, hi, hz0, hz1, hz2⟩ := info_parts Try.info24
    obtain ⟨j0, hj, hy0, hy1, hy2⟩ := info_parts Try.info4
    have HS1 := Lib.hid S1
    have KF0 := Lib.hid (KF.below (fo43_ok (w.heap.size + 1) w.heap.size) bl1)
    have Hn1 := Lib.hid hn1
    clear ci hf bX hr S1 bl1 hlt hl hn1
    gi_wp2
    refine region_picked_round _ [0,1,2,3,4,5] [0,1,2,3,4,5,6,7] 5 (by rintro ⟨_, _, h⟩; exact h) (by kernel_rfl) (by kernel_rfl) (by kernel_rfl) (by kernel_rfl) (by kernel_rfl) (by kernel_rfl) (by kernel_rfl) (fun _ _ _ _ _ h => h) HC ?_
    intro hne hu
    simp only [AllCells] at hu
    simp only [pick, List.take_succ_cons, List.take_zero, List.drop_succ_cons, List.drop_zero, List.cons_append, List.nil_append]
    repeat (go_big_quiet_step (fail))
    refine wpQuiet_nil ?_
    clear hne hu
    refine anyN_oneL 6 (by kernel_rfl) ?_
    simp only [List.take_succ_cons, List.take_zero, List.drop_succ_cons, List.drop_zero]
    go_wp2_with fail
    refine And.intro (fun _ => HS1.out) ?_
    refine anyN_oneL 7 (by kernel_rfl) ?_
    simp only [List.take_succ_cons, List.take_zero, List.drop_succ_cons, List.drop_zero]
    refine wpList_append_own_at _ rfl _ _ _ rfl 0 24 i0 _ 2 16 Try.underlying22 hi hz0 hz1 hz2 rfl (by omega) _ _ _ rfl ci1.out.ax.rI.1 ⟨W.heap.size, 0, none⟩ 1 1 [.int .i64 z1, .int .i64 z2] rfl rfl (World.news_of_block (cs := #[.int .i64 z1, .int .i64 z2]) (t := 24) (fr := (0, 0)) (heap_alloc_new W _)) (by simp [Value.oneCell']) (by simp only [maxLen]; omega) (by omega) (Nat.zero_le _) ?_
    intro v' w2 hown2 hgrow2 _ hat2
    obtain ⟨gN, cN, rfl⟩ := ownsRow_slice hown2 (by omega)
    have hr2 : w2.ownsRow 0 24 2 (.slice (some ⟨gN, 0, none⟩) (I0 ++ [(z1, z2)]).length cN) (I0 ++ [(z1, z2)]).length (idCells (I0 ++ [(z1, z2)])) := by
      rw [List.length_append, List.length_singleton]
      simpa [idCells_append, idCells] using hown2
    obtain ⟨b1, b2, kf1, own2, ci2⟩ := ci1.out.putI (ids' := I0 ++ [(z1, z2)]) hgrow2 hr2 (hat2.imp (fun e => e.symm.trans rfl) (fun e => by
      have e' : gN = (W.alloc (.cells #[.int .i64 z1, .int .i64 z2] 24)).drew.heap.size := by simpa [Value.ownBlock] using e
      exact ⟨by omega, (hown2.lt gN rfl).2⟩))
    have bx2 : Blk w2 Bx 24 #[.int .i64 z1, .int .i64 z2] := BX.out.kept (hgrow2.block Bx BX.out.lt (fun e => HF.out e.symm))
    have KO1 := Lib.hid (((KeepsOthers.alloc W (.cells #[.int .i64 z1, .int .i64 z2] 24)).trans (KeepsOthers.drew _)).trans ((keeps_app ci1.out.ax.rI hgrow2).trans (KeepsOthers.setCell w2 ⟨w.heap.size, 0, none⟩ (.slice (some ⟨gN, 0, none⟩) (I0.length + 1) cN))))
    have f0 := b1.frozen 0
    have g0 := b1.cell 0
    have gb := b2.cell 0
    have x0 := bx2.cell 0
    have x1 := bx2.cell 1
    simp only [List.getElem?_toArray, List.getElem?_cons_zero, List.getElem?_cons_succ] at g0 gb x0 x1
    have KF1 := Lib.hid kf1
    have CI2 := Lib.hid ci2
    rw [List.length_append, List.length_singleton] at KF1 CI2
    clear kf1 ci2 hown2 hgrow2 hat2 hr2 b1 b2 bx2 e0 e1 c0 c1 cb HC
    simp only [Exit.then]
    refine And.intro (fun _ => ⟨gb, g0, x0, x1, trivial⟩) ?_
    clear x0 x1 HS1 ci1
    refine anyN_restL 8 (by kernel_rfl) (by decide) (by kernel_rfl) ?_
    simp only [List.drop_succ_cons, List.drop_zero, Act.put, List.setIfInBounds_toArray, List.set_cons_succ, List.set_cons_zero]
    go_wp2_with fail
    clear f0 g0 gb
    generalize w2.setCell ⟨w.heap.size, 0, none⟩ (.slice (some ⟨gN, 0, none⟩) (I0.length + 1) cN) = V2 at *
    have c1 := CI2.out.ax.blk.cell 1
    have cb := CI2.out.box.cell 0
    simp only [List.getElem?_toArray, List.getElem?_cons_zero, List.getElem?_cons_succ] at c1 cb
    have HC : AllCells V2.drew [(⟨w.heap.size + 1, 0, none⟩, .pointer (some ⟨w.heap.size, 0, none⟩)), (⟨w.heap.size, 1, none⟩, .slice AL L0.length cL)] := ⟨cb, c1, trivial⟩
    have bl3 : Below V2.heap.size V2 (V2.alloc (.cells #[.bool xb] 4)).drew := ((Below.refl _ V2).alloc (Nat.le_refl _) _).drew
    have ci3 := Lib.hid (CI2.out.next bl3)
    have HS3 : Hid (AllCells (V2.alloc (.cells #[.bool xb] 4)).drew [(⟨w.heap.size + 1, 0, none⟩, .pointer (some ⟨w.heap.size, 0, none⟩)), (⟨w.heap.size, 1, none⟩, .slice AL L0.length cL)]) := AllCells.below (show AllCells V2 _ from HC) bl3
    have hn3 := Lib.hid (show L0.length < 1000 by have := Hn1.out; omega)
    have KF3 := Lib.hid (KF.below (fo43_ok (w.heap.size + 1) w.heap.size) bl3)
    clear bl3
    refine region_picked_round _ [0,1,2,3,4,5] [0,1,2,3,4,5,6,7] 5 (by rintro ⟨_, _, h⟩; exact h) (by kernel_rfl) (by kernel_rfl) (by kernel_rfl) (by kernel_rfl) (by kernel_rfl) (by kernel_rfl) (by kernel_rfl) (fun _ _ _ _ _ h => h) HC ?_
    intro hne hu
    simp only [AllCells] at hu
    simp only [pick, List.take_succ_cons, List.take_zero, List.drop_succ_cons, List.drop_zero, List.cons_append, List.nil_append]
    repeat (go_big_quiet_step (fail))
    refine wpQuiet_nil ?_
    clear hne hu
    refine anyN_oneL 6 (by kernel_rfl) ?_
    simp only [List.take_succ_cons, List.take_zero, List.drop_succ_cons, List.drop_zero]
    go_wp2_with fail
    refine And.intro (fun _ => HS3.out) ?_
    refine anyN_oneL 7 (by kernel_rfl) ?_
    simp only [List.take_succ_cons, List.take_zero, List.drop_succ_cons, List.drop_zero]
    refine wpList_append_own_at _ rfl _ _ _ rfl 0 4 j0 _ 1 1 Try.underlying53 hj hy0 hy1 hy2 rfl (by omega) _ _ _ rfl ci3.out.ax.rL.1 ⟨V2.heap.size, 0, none⟩ 1 1 [.bool xb] rfl rfl (World.news_of_block (cs := #[.bool xb]) (t := 4) (fr := (0, 0)) (heap_alloc_new V2 _)) (by simp [Value.oneCell']) (by have := hn3.out; simp only [maxLen]; omega) (by have := hn3.out; omega) (Nat.zero_le _) ?_
    intro v' w4 hown4 hgrow4 _ hat4
    obtain ⟨gM, cM, rfl⟩ := ownsRow_slice hown4 (by omega)
    have hr4 : w4.ownsRow 0 4 1 (.slice (some ⟨gM, 0, none⟩) (L0 ++ [xb]).length cM) (L0 ++ [xb]).length (boolCells (L0 ++ [xb])) := by
      rw [List.length_append, List.length_singleton]
      simpa [boolCells] using hown4
    obtain ⟨b1, b2, kf4, own4, ci4⟩ := ci3.out.putL (live' := L0 ++ [xb]) hgrow4 hr4 (hat4.imp (fun e => e.symm.trans rfl) (fun e => by
      have e' : gM = (V2.alloc (.cells #[.bool xb] 4)).drew.heap.size := by simpa [Value.ownBlock] using e
      exact ⟨by omega, (hown4.lt gM rfl).2⟩))
    have KO4 := Lib.hid (((KeepsOthers.alloc V2 (.cells #[.bool xb] 4)).trans (KeepsOthers.drew _)).trans ((keeps_app ci3.out.ax.rL hgrow4).trans (KeepsOthers.setCell w4 ⟨w.heap.size, 1, none⟩ (.slice (some ⟨gM, 0, none⟩) (L0.length + 1) cM))))
    have f0 := b1.frozen 1
    have g0 := b1.cell 1
    have gb := b2.cell 0
    simp only [List.getElem?_toArray, List.getElem?_cons_zero, List.getElem?_cons_succ] at g0 gb
    have KF4 := Lib.hid kf4
    have CI4 := Lib.hid ci4
    rw [List.length_append, List.length_singleton] at KF4 CI4
    clear kf4 ci4 hown4 hgrow4 hat4 hr4 b1 b2 c1 cb HC
    simp only [Exit.then]
    refine And.intro (fun _ => ⟨gb, g0, trivial⟩) ?_
    refine anyN_restL 8 (by kernel_rfl) (by decide) (by kernel_rfl) ?_
    simp only [List.drop_succ_cons, List.drop_zero, Act.put, List.setIfInBounds_toArray, List.set_cons_succ, List.set_cons_zero]
    go_wp2_with fail
    exact ⟨(KO1.out.trans KO4.out).from _, ((KF0.out.trans KF1.out).trans KF3.out).trans KF4.out, own4, _, _, by rw [hmap.out.1, hmap.out.2]; exact CI4.out⟩
  case done =>
    rintro D ys W hD rfl ⟨own1, vI, vL, ci⟩ hK
    have cb := ci.box.cell 0
    simp only [List.getElem?_toArray, List.getElem?_cons_zero] at cb
    have HCI := Lib.hid ci
    have HK := Lib.hid hK
    clear ci hK
    dsimp only
    go_wp2_with fail
    refine ⟨by simp, .inl ⟨_, _, rfl, run_takeDeferred HK.out, ?_⟩⟩
    have ci5 := HCI.out.grow (W1 := W.putObj D (.deferred none)) (row := some D) (S := w.heap.size) (Nat.le_refl _) (grownBy_putObj' W D (.deferred none)) (fun r e => by cases e; exact ⟨by omega, _, HK.out, rfl⟩)
    rw [map_zip1 HA.out.len, map_zip2 HA.out.len] at ci5
    exact ⟨_, results_tmp rfl _ _ _, own1, w.heap.size, rfl, ci5.tr, Nat.le_refl _, HA.out.len, HA.out.le, HA.out.nodup, HA.out.nz, .inr ⟨_, _, ci5.ax⟩⟩
  case stop =>
    rintro D c pre W _ _ h _
    exact h.elim
end Go.Proofs.Ytgmlhpkhecbkoaa
