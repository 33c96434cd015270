/-
  (*Axis).Insert: the last cases. Condition: the axis lies in memory as AxisAt says.
-/
import Derived.Test.YtgmlhpkhecbkoaaJ2
namespace Go.Proofs.Ytgmlhpkhecbkoaa
open Go.RowKit

set_option maxRecDepth 100000 in
set_option maxHeartbeats 2000000 in
theorem ins_full (w : World) (own : Tags) (t p : Nat) (ids : List Id) (live : List Bool) (b1 b2 x y : Int) (h : AxisAt w own t p ids live) (hz : (x, y) ≠ (0, 0)) (hx : idxI (x, y) ids = -1) (hl : 1000 ≤ ids.length) (hb : (b1, b2) = (0, 0) ∨ ∃ j : Nat, (b1, b2) ≠ (0, 0) ∧ idxI (b1, b2) ids = (j : Int)) :
    Calls Try.prog 32 #[.pointer (some ⟨p, 0, none⟩), .agg #[.int .i64 b1, .int .i64 b2], .agg #[.int .i64 x, .int .i64 y]] w (AP w own t p ids live (.int .i64 5)) := by
  have hsp := Lib.hid (fun o o' => spot_c ((w.alloc o).alloc o') own t p ids live x y (h.keep (same2 o o')))
  have hsq := Lib.hid (fun (o o' : Obj) (w1 : World) (hB : Below ((w.alloc o).alloc o').heap.size ((w.alloc o).alloc o') w1) => spot_c w1 own t p ids live b1 b2 ((h.keep (same2 o o')).keep (Same.below hB)))
  rw [hx] at hsp
  have H := Lib.hid h
  have hq : ideq x y 0 0 = false := ideq_false.2 (fun ⟨a, b⟩ => hz (by rw [a, b]))
  have hbox := Lib.hid (Blk.new w 24 #[.int .i64 b1, .int .i64 b2])
  have hlI : (1000 : Int) ≤ (ids.length : Int) := by omega
  have hle := h.le
  clear h hx hz
  rcases hb with hb | ⟨j, hb, hbx⟩
  · have hq2 : ideq b1 b2 0 0 = true := ideq_true.2 ⟨congrArg Prod.fst hb, congrArg Prod.snd hb⟩
    clear hb
    go_enter Try.func32, Try.ntmps32
    go_wp2_with fail
    refine (hsp.out _ _).mono ?_
    rintro e w1 ⟨rfl, hB⟩
    have hb1 := (hbox.out.alloc (.cells #[.int .i64 x, .int .i64 y] 24)).kept (hB.block w.heap.size (by simp; omega))
    have d0 := hb1.cell 0
    have d1 := hb1.cell 1
    simp at d0 d1
    obtain ⟨vI, vL, vS, vA, vV, a⟩ := ((H.out.keep (same2 (.cells #[.int .i64 b1, .int .i64 b2] 24) (.cells #[.int .i64 x, .int .i64 y] 24))).keep (Same.below hB)).exI
    obtain ⟨AI, cI, rfl, _⟩ := a.rI.form
    have c0 := a.blk.cell 0
    simp at c0
    have HB := Lib.hid hB
    clear hB hb1 a
    go_wp2
    go_ret
    exact ⟨rfl, own, (((Tr.refl own t w).alloc _).alloc _).below HB.out, H.out.keep ((same2 _ _).trans (by simp; omega) (Same.below HB.out))⟩
  · rw [hbx] at hsq
    have hq2 : ideq b1 b2 0 0 = false := ideq_false.2 (fun ⟨a, b⟩ => hb (by rw [a, b]))
    have hjl : (j : Int) < (ids.length : Int) := by
      unfold idxI at hbx
      split at hbx
      · rename_i hm; have := List.idxOf_lt_length_iff.2 hm; omega
      · omega
    have hj0 : ((j : Int) + 1 == 0) = false := by simp; omega
    clear hb hbx
    go_enter Try.func32, Try.ntmps32
    go_wp2_with fail
    refine (hsp.out _ _).mono ?_
    rintro e w1 ⟨rfl, hB⟩
    have hb1 := (hbox.out.alloc (.cells #[.int .i64 x, .int .i64 y] 24)).kept (hB.block w.heap.size (by simp; omega))
    have d0 := hb1.cell 0
    have d1 := hb1.cell 1
    simp at d0 d1
    have HB := Lib.hid hB
    clear hB hb1
    go_wp2_with fail
    refine (hsq.out _ _ _ HB.out).mono ?_
    rintro e w2 ⟨rfl, hB⟩
    obtain ⟨vI, vL, vS, vA, vV, a⟩ := (((H.out.keep (same2 (.cells #[.int .i64 b1, .int .i64 b2] 24) (.cells #[.int .i64 x, .int .i64 y] 24))).keep (Same.below HB.out)).keep (Same.below hB)).exI
    obtain ⟨AI, cI, rfl, _⟩ := a.rI.form
    have c0 := a.blk.cell 0
    simp at c0
    have HC := Lib.hid hB
    clear hB a
    go_wp2
    go_ret
    exact ⟨rfl, own, ((((Tr.refl own t w).alloc _).alloc _).below HB.out).below HC.out, (H.out.keep ((same2 _ _).trans (by simp; omega) (Same.below HB.out))).keep (Same.below HC.out)⟩

set_option maxRecDepth 100000 in
set_option maxHeartbeats 4000000 in
theorem ins_put (w : World) (own : Tags) (t p : Nat) (ids : List Id) (live : List Bool) (b1 b2 x y : Int) (h : AxisAt w own t p ids live) (hz : (x, y) ≠ (0, 0)) (hx : idxI (x, y) ids = -1) (hl : ids.length < 1000) (iv : Nat) (hiv : iv ≤ ids.length) (hb : ((b1, b2) = (0, 0) ∧ iv = 0) ∨ ∃ j : Nat, (b1, b2) ≠ (0, 0) ∧ idxI (b1, b2) ids = (j : Int) ∧ iv = j + 1) :
    Calls Try.prog 32 #[.pointer (some ⟨p, 0, none⟩), .agg #[.int .i64 b1, .int .i64 b2], .agg #[.int .i64 x, .int .i64 y]] w (AP w own t p (putAt ids iv (x, y)) (putAt live iv true) (.int .i64 0)) := by
  have hsp := Lib.hid (fun o o' => spot_c ((w.alloc o).alloc o') own t p ids live x y (h.keep (same2 o o')))
  have hsq := Lib.hid (fun (o o' : Obj) (w1 : World) (hB : Below ((w.alloc o).alloc o').heap.size ((w.alloc o).alloc o') w1) => spot_c w1 own t p ids live b1 b2 ((h.keep (same2 o o')).keep (Same.below hB)))
  rw [hx] at hsp
  have hni : Hid ((x, y) ∉ ids) := fun hm => by unfold idxI at hx; rw [if_pos hm] at hx; omega
  have H := Lib.hid h
  have hq : ideq x y 0 0 = false := ideq_false.2 (fun ⟨a, b⟩ => hz (by rw [a, b]))
  have Hz := Lib.hid hz
  have hbox := Lib.hid (Blk.new w 24 #[.int .i64 b1, .int .i64 b2])
  have hbox2 := Lib.hid (Blk.new (w.alloc (.cells #[.int .i64 b1, .int .i64 b2] 24)) 24 #[.int .i64 x, .int .i64 y])
  have hlI : (ids.length : Int) < 1000 := by omega
  clear h hx hz
  rcases hb with ⟨hb, hi⟩ | ⟨j, hb, hbx, hi⟩
  · have hq2 : ideq b1 b2 0 0 = true := ideq_true.2 ⟨congrArg Prod.fst hb, congrArg Prod.snd hb⟩
    have hivI : Hid ((0 : Int) = (iv : Int)) := by show _ = _; omega
    clear hb hi
    go_enter Try.func32, Try.ntmps32
    go_wp2_with fail
    refine (hsp.out _ _).mono ?_
    rintro e w2 ⟨rfl, hB⟩
    have hb1 := (hbox.out.alloc (.cells #[.int .i64 x, .int .i64 y] 24)).kept (hB.block w.heap.size (by simp; omega))
    have d0 := hb1.cell 0
    have d1 := hb1.cell 1
    have hb2 : Hid (Blk w2 (w.heap.size + 1) 24 #[.int .i64 x, .int .i64 y]) := by
      have := hbox2.out.kept (hB.block _ (by simp))
      refine Lib.hid ?_
      simpa using this
    simp at d0 d1
    clear hb1
    have S2 : Hid (Same t own w own w2) := Lib.hid ((same2 (.cells #[.int .i64 b1, .int .i64 b2] 24) (.cells #[.int .i64 x, .int .i64 y] 24)).trans (by simp; omega) (Same.below hB))
    have tr2 := Lib.hid ((((Tr.refl own t w).alloc (.cells #[.int .i64 b1, .int .i64 b2] 24)).alloc (.cells #[.int .i64 x, .int .i64 y] 24)).below hB)
    obtain ⟨vI, vL, vS, vA, vV, a⟩ := H.out.exI
    have HV := Lib.hid (fun k hk => (a.rI.1.lt k hk).2)
    replace a := a.keep S2.out
    obtain ⟨AI, cI, rfl, _⟩ := a.rI.form
    obtain ⟨AL, cL, rfl, _⟩ := a.rL.form
    have c0 := a.blk.cell 0
    have e0 := hb2.out.cell 0
    have e1 := hb2.out.cell 1
    simp at c0 e0 e1
    have A2 := Lib.hid a
    clear hB a
    go_wp2_with fail
    have HI := Lib.hid (insI_c (.slice AI ids.length cI) ids.length iv w2.heap.size (idCells ids) [.int .i64 x, .int .i64 y] (w2.drew.alloc (.cells #[.int .i64 x, .int .i64 y] 24)) ((A2.out.keep ((Same.drew).trans (by simp) (Same.alloc _))).rI.1) (by omega) hiv (fun e => by have := (A2.out.rI.1.lt _ e).2; omega) (Blk.new w2.drew 24 _) rfl (by simp [Value.oneCell']) (idCells_one ids))
    rw [← hivI.out] at HI
    clear d0 d1 hsp hsq
    refine region_held [(⟨p, 0, none⟩, .slice AI ids.length cI), (⟨w.heap.size + 1, 0, none⟩, .int .i64 x), (⟨w.heap.size + 1, 1, none⟩, .int .i64 y)] 7 2 (by kernel_rfl) (by kernel_rfl) (fun _ _ _ _ _ h => h) ⟨c0, e0, e1, trivial⟩ ?_
    intro hne hu
    simp only [AllCells] at hu
    simp only [List.take_succ_cons, List.take_zero, List.drop_succ_cons, List.drop_zero, tailWp]
    repeat (go_big_quiet_step (fail))
    refine wpQuiet_nil ?_
    go_wp2_with fail
    refine And.intro (by refine AllCells.drew (AllCells.alloc ?_ _); exact ⟨c0, e0, e1, trivial⟩) ?_
    go_wp2_with fail
    refine HI.out.mono ?_
    rintro e w3 ⟨gI, nI, rfl, hgr, hrow, hat⟩
    obtain ⟨hq3, own3, tr3, a3⟩ := (A2.out.keep ((Same.drew).trans (by simp) (Same.alloc (.cells #[.int .i64 x, .int .i64 y] 24)))).setI (ids' := putAt ids iv (x, y)) hgr (by rw [idCells_putAt, length_putAt]; exact hrow) hat
    rw [length_putAt] at tr3 a3
    have f0 := hq3.frozen 0
    have g0 := hq3.cell 0
    simp at g0
    have hb3 : Blk w3 (w.heap.size + 1) 24 #[.int .i64 x, .int .i64 y] := (hb2.out.alloc (.cells #[.int .i64 x, .int .i64 y] 24)).kept (hgr.block (w.heap.size + 1) (by have := hb2.out.lt; simp; omega) (fun e => by
      have := HV.out _ e.symm
      omega))
    have i0 := hb3.cell 0
    have i1 := hb3.cell 1
    simp at i0 i1
    go_wp2_with fail
    refine And.intro ⟨g0, i0, i1, trivial⟩ ?_
    have TR3 := Lib.hid tr3
    have A3 := Lib.hid a3
    clear hgr hrow hat tr3 a3 hb3 i0 i1 HI c0 e0 e1
    have g1 := hq3.cell 1
    have f1 := hq3.frozen 1
    simp at g1
    clear hq3 hu hne
    have HJ := Lib.hid (insB_c (.slice AL live.length cL) live.length iv w3.heap.size (boolCells live) [.bool true] ((w3.setCell ⟨p, 0, none⟩ (.slice (some ⟨gI, 0, none⟩) (ids.length + 1) nI)).alloc (.cells #[.bool true] 4)) ((A3.out.keep (Same.alloc _)).rL.1) (by rw [H.out.len]; omega) (by rw [H.out.len]; exact hiv) (fun e => by have := (A3.out.rL.1.lt _ e).2; simp at this) (by have := Blk.new (w3.setCell ⟨p, 0, none⟩ (.slice (some ⟨gI, 0, none⟩) (ids.length + 1) nI)) 4 #[.bool true]; simpa using this) rfl (by simp [Value.oneCell']) (boolCells_one live))
    rw [← hivI.out] at HJ
    go_wp2_with fail
    refine HJ.out.mono ?_
    rintro e w4 ⟨gL, nL, rfl, hgr, hrow, hat⟩
    obtain ⟨hq4, own4, tr4, a4⟩ := (A3.out.keep (Same.alloc (.cells #[.bool true] 4))).setL (live' := putAt live iv true) hgr (by rw [boolCells_putAt, length_putAt]; exact hrow) hat
    rw [length_putAt] at tr4 a4
    have k1 := hq4.frozen 1
    have l1 := hq4.cell 1
    simp at l1
    have TR4 := Lib.hid tr4
    have A4 := Lib.hid a4
    clear hgr hrow hat tr4 a4 HJ hq4 g0 f0 g1 f1
    go_wp2_with fail
    refine (forget_c _ own4 t p _ _ _ _ _ _ _ A4.out).mono ?_
    rintro e w5 ⟨rfl, tr5, u5⟩
    have TR5 := Lib.hid tr5
    have U5 := Lib.hid u5
    clear tr5 u5
    go_wp2
    go_ret
    exact ⟨rfl, own4, (((((tr2.out.drew).alloc _).trans TR3.out).alloc _).trans TR4.out).trans TR5.out, H.out.put Hz.out hni.out hl U5.out⟩
  · rw [hbx] at hsq
    have hq2 : ideq b1 b2 0 0 = false := ideq_false.2 (fun ⟨a, b⟩ => hb (by rw [a, b]))
    have hjl : (j : Int) < (ids.length : Int) := by omega
    have hj0 : ((j : Int) + 1 == 0) = false := by simp; omega
    have hivI : Hid ((j : Int) + 1 = (iv : Int)) := by show _ = _; omega
    clear hb hbx hi
    go_enter Try.func32, Try.ntmps32
    go_wp2_with fail
    refine (hsp.out _ _).mono ?_
    rintro e w1 ⟨rfl, hB⟩
    have hb1 := (hbox.out.alloc (.cells #[.int .i64 x, .int .i64 y] 24)).kept (hB.block w.heap.size (by simp; omega))
    have d0 := hb1.cell 0
    have d1 := hb1.cell 1
    simp at d0 d1
    have hb1 : Hid (Blk w1 (w.heap.size + 1) 24 #[.int .i64 x, .int .i64 y]) := by
      have := hbox2.out.kept (hB.block _ (by simp))
      refine Lib.hid ?_
      simpa using this
    have HB := Lib.hid hB
    clear hB
    go_wp2_with fail
    refine (hsq.out _ _ _ HB.out).mono ?_
    rintro e w2 ⟨rfl, hB⟩
    have hb2 := Lib.hid (hb1.out.kept (hB.block _ hb1.out.lt))
    have S2 : Hid (Same t own w own w2) := Lib.hid (((same2 (.cells #[.int .i64 b1, .int .i64 b2] 24) (.cells #[.int .i64 x, .int .i64 y] 24)).trans (by simp; omega) (Same.below HB.out)).trans (by have := HB.out.size; simp at this; omega) (Same.below hB))
    have tr2 := Lib.hid (((((Tr.refl own t w).alloc (.cells #[.int .i64 b1, .int .i64 b2] 24)).alloc (.cells #[.int .i64 x, .int .i64 y] 24)).below HB.out).below hB)
    obtain ⟨vI, vL, vS, vA, vV, a⟩ := H.out.exI
    have HV := Lib.hid (fun k hk => (a.rI.1.lt k hk).2)
    replace a := a.keep S2.out
    obtain ⟨AI, cI, rfl, _⟩ := a.rI.form
    obtain ⟨AL, cL, rfl, _⟩ := a.rL.form
    have c0 := a.blk.cell 0
    have e0 := hb2.out.cell 0
    have e1 := hb2.out.cell 1
    simp at c0 e0 e1
    have A2 := Lib.hid a
    clear hB a
    go_wp2_with fail
    have HI := Lib.hid (insI_c (.slice AI ids.length cI) ids.length iv w2.heap.size (idCells ids) [.int .i64 x, .int .i64 y] (w2.drew.alloc (.cells #[.int .i64 x, .int .i64 y] 24)) ((A2.out.keep ((Same.drew).trans (by simp) (Same.alloc _))).rI.1) (by omega) hiv (fun e => by have := (A2.out.rI.1.lt _ e).2; omega) (Blk.new w2.drew 24 _) rfl (by simp [Value.oneCell']) (idCells_one ids))
    rw [← hivI.out] at HI
    clear d0 d1 hsp hsq
    refine region_held [(⟨p, 0, none⟩, .slice AI ids.length cI), (⟨w.heap.size + 1, 0, none⟩, .int .i64 x), (⟨w.heap.size + 1, 1, none⟩, .int .i64 y)] 7 2 (by kernel_rfl) (by kernel_rfl) (fun _ _ _ _ _ h => h) ⟨c0, e0, e1, trivial⟩ ?_
    intro hne hu
    simp only [AllCells] at hu
    simp only [List.take_succ_cons, List.take_zero, List.drop_succ_cons, List.drop_zero, tailWp]
    repeat (go_big_quiet_step (fail))
    refine wpQuiet_nil ?_
    go_wp2_with fail
    refine And.intro (by refine AllCells.drew (AllCells.alloc ?_ _); exact ⟨c0, e0, e1, trivial⟩) ?_
    go_wp2_with fail
    refine HI.out.mono ?_
    rintro e w3 ⟨gI, nI, rfl, hgr, hrow, hat⟩
    obtain ⟨hq3, own3, tr3, a3⟩ := (A2.out.keep ((Same.drew).trans (by simp) (Same.alloc (.cells #[.int .i64 x, .int .i64 y] 24)))).setI (ids' := putAt ids iv (x, y)) hgr (by rw [idCells_putAt, length_putAt]; exact hrow) hat
    rw [length_putAt] at tr3 a3
    have f0 := hq3.frozen 0
    have g0 := hq3.cell 0
    simp at g0
    have hb3 : Blk w3 (w.heap.size + 1) 24 #[.int .i64 x, .int .i64 y] := (hb2.out.alloc (.cells #[.int .i64 x, .int .i64 y] 24)).kept (hgr.block (w.heap.size + 1) (by have := hb2.out.lt; simp; omega) (fun e => by
      have := HV.out _ e.symm
      omega))
    have i0 := hb3.cell 0
    have i1 := hb3.cell 1
    simp at i0 i1
    go_wp2_with fail
    refine And.intro ⟨g0, i0, i1, trivial⟩ ?_
    have TR3 := Lib.hid tr3
    have A3 := Lib.hid a3
    clear hgr hrow hat tr3 a3 hb3 i0 i1 HI c0 e0 e1
    have g1 := hq3.cell 1
    have f1 := hq3.frozen 1
    simp at g1
    clear hq3 hu hne
    have HJ := Lib.hid (insB_c (.slice AL live.length cL) live.length iv w3.heap.size (boolCells live) [.bool true] ((w3.setCell ⟨p, 0, none⟩ (.slice (some ⟨gI, 0, none⟩) (ids.length + 1) nI)).alloc (.cells #[.bool true] 4)) ((A3.out.keep (Same.alloc _)).rL.1) (by rw [H.out.len]; omega) (by rw [H.out.len]; exact hiv) (fun e => by have := (A3.out.rL.1.lt _ e).2; simp at this) (by have := Blk.new (w3.setCell ⟨p, 0, none⟩ (.slice (some ⟨gI, 0, none⟩) (ids.length + 1) nI)) 4 #[.bool true]; simpa using this) rfl (by simp [Value.oneCell']) (boolCells_one live))
    rw [← hivI.out] at HJ
    go_wp2_with fail
    refine HJ.out.mono ?_
    rintro e w4 ⟨gL, nL, rfl, hgr, hrow, hat⟩
    obtain ⟨hq4, own4, tr4, a4⟩ := (A3.out.keep (Same.alloc (.cells #[.bool true] 4))).setL (live' := putAt live iv true) hgr (by rw [boolCells_putAt, length_putAt]; exact hrow) hat
    rw [length_putAt] at tr4 a4
    have k1 := hq4.frozen 1
    have l1 := hq4.cell 1
    simp at l1
    have TR4 := Lib.hid tr4
    have A4 := Lib.hid a4
    clear hgr hrow hat tr4 a4 HJ hq4 g0 f0 g1 f1
    go_wp2_with fail
    refine (forget_c _ own4 t p _ _ _ _ _ _ _ A4.out).mono ?_
    rintro e w5 ⟨rfl, tr5, u5⟩
    have TR5 := Lib.hid tr5
    have U5 := Lib.hid u5
    clear tr5 u5
    go_wp2
    go_ret
    exact ⟨rfl, own4, (((((tr2.out.drew).alloc _).trans TR3.out).alloc _).trans TR4.out).trans TR5.out, H.out.put Hz.out hni.out hl U5.out⟩

theorem insert_c (w : World) (own : Tags) (t p : Nat) (ids : List Id) (live : List Bool) (b1 b2 x y : Int) (h : AxisAt w own t p ids live) :
    Calls Try.prog 32 #[.pointer (some ⟨p, 0, none⟩), .agg #[.int .i64 b1, .int .i64 b2], .agg #[.int .i64 x, .int .i64 y]] w (AP w own t p (insIds ids (b1, b2) (x, y)) (insLive ids live (b1, b2) (x, y)) (.int .i64 (insR ids (b1, b2) (x, y)))) := by
  unfold insIds insLive
  by_cases hz : (x, y) = (0, 0)
  · have e : insR ids (b1, b2) (x, y) = 1 := by unfold insR; rw [if_pos hz]
    rw [e, if_neg (by decide), if_neg (by decide)]
    cases hz
    exact ins_zero w own t p ids live b1 b2 h
  · by_cases hn : (x, y) ∈ ids
    · have e : insR ids (b1, b2) (x, y) = 4 := by unfold insR; rw [if_neg hz, if_pos hn]
      rw [e, if_neg (by decide), if_neg (by decide)]
      exact ins_dup w own t p ids live b1 b2 x y (ids.idxOf (x, y)) h hz (by unfold idxI; rw [if_pos hn])
    · have hx : idxI (x, y) ids = -1 := by unfold idxI; rw [if_neg hn]
      by_cases hb : (b1, b2) ≠ (0, 0) ∧ (b1, b2) ∉ ids
      · have e : insR ids (b1, b2) (x, y) = 3 := by unfold insR; rw [if_neg hz, if_neg hn, if_pos hb]
        rw [e, if_neg (by decide), if_neg (by decide)]
        exact ins_out w own t p ids live b1 b2 x y h hz hx hb.1 (by unfold idxI; rw [if_neg hb.2])
      · have hb' : (b1, b2) = (0, 0) ∨ ((b1, b2) ≠ (0, 0) ∧ (b1, b2) ∈ ids) := by
          by_cases h0 : (b1, b2) = (0, 0)
          · exact .inl h0
          · exact .inr ⟨h0, Classical.byContradiction fun h1 => hb ⟨h0, h1⟩⟩
        by_cases hl : 1000 ≤ ids.length
        · have e : insR ids (b1, b2) (x, y) = 5 := by unfold insR; rw [if_neg hz, if_neg hn, if_neg hb, if_pos hl]
          rw [e, if_neg (by decide), if_neg (by decide)]
          refine ins_full w own t p ids live b1 b2 x y h hz hx hl (hb'.imp id fun ⟨h0, h1⟩ => ⟨ids.idxOf (b1, b2), h0, by unfold idxI; rw [if_pos h1]⟩)
        · have e : insR ids (b1, b2) (x, y) = 0 := by unfold insR; rw [if_neg hz, if_neg hn, if_neg hb, if_neg hl]
          rw [e, if_pos rfl, if_pos rfl]
          refine ins_put w own t p ids live b1 b2 x y h hz hx (by omega) _ ?_ ?_
          · unfold insAt
            rcases hb' with h0 | ⟨h0, h1⟩
            · rw [if_pos h0]; omega
            · rw [if_neg h0]; exact List.idxOf_lt_length_iff.2 h1
          · rcases hb' with h0 | ⟨h0, h1⟩
            · exact .inl ⟨h0, by unfold insAt; rw [if_pos h0]⟩
            · exact .inr ⟨ids.idxOf (b1, b2), h0, by unfold idxI; rw [if_pos h1], by unfold insAt; rw [if_neg h0]⟩
end Go.Proofs.Ytgmlhpkhecbkoaa
