/-
  (*counterpaneref03.Axis).Insert: its contract. Condition: the axis lies in memory as RefAt says.
-/
import Derived.Test.YtgmlhpkhecbkoaaR4
namespace Go.Proofs.Ytgmlhpkhecbkoaa
open Go.RowKit

set_option maxRecDepth 100000 in
set_option maxHeartbeats 2000000 in
theorem rins_full (w : World) (own : Tags) (t p : Nat) (ids : List Id) (live : List Bool) (b1 b2 x y : Int) (h : RefAt w own t p ids live) (hz : (x, y) ≠ (0, 0)) (hx : idxI (x, y) ids = -1) (hl : 1000 ≤ ids.length) (hb : (b1, b2) = (0, 0) ∨ ∃ j : Nat, (b1, b2) ≠ (0, 0) ∧ idxI (b1, b2) ids = (j : Int)) :
    Calls Try.prog 34 #[.pointer (some ⟨p, 0, none⟩), .agg #[.int .i64 b1, .int .i64 b2], .agg #[.int .i64 x, .int .i64 y]] w (RA w own t p ids live (.int .i64 5)) := by
  have hsp := Lib.hid (fun o o' => rfind_c ((w.alloc o).alloc o') own t p ids live x y (h.keep (same2 o o')))
  have hsq := Lib.hid (fun (o o' : Obj) (w1 : World) (hB : Below ((w.alloc o).alloc o').heap.size ((w.alloc o).alloc o') w1) => rfind_c w1 own t p ids live b1 b2 ((h.keep (same2 o o')).keep (Same.below hB)))
  rw [hx] at hsp
  have H := Lib.hid h
  have hq : ideq x y 0 0 = false := ideq_false.2 (fun ⟨a, b⟩ => hz (by rw [a, b]))
  have hbox := Lib.hid (Blk.new w 24 #[.int .i64 b1, .int .i64 b2])
  have hlI : (1000 : Int) ≤ (ids.length : Int) := by omega
  have hle := h.le
  clear h hx hz
  rcases hb with hb | ⟨j, hb, hbx⟩
  · have hq2 : ideq b1 b2 0 0 = true := ideq_true.2 ⟨congrArg Prod.fst hb, congrArg Prod.snd hb⟩
    clear hb
    go_enter Try.func34, Try.ntmps34
    go_wp2_with fail
    refine (hsp.out _ _).mono ?_
    rintro e w1 ⟨rfl, hB⟩
    have hb1 := (hbox.out.alloc (.cells #[.int .i64 x, .int .i64 y] 24)).kept (hB.block w.heap.size (by simp; omega))
    have d0 := hb1.cell 0
    have d1 := hb1.cell 1
    simp at d0 d1
    obtain ⟨vI, vL, a⟩ := ((H.out.keep (same2 (.cells #[.int .i64 b1, .int .i64 b2] 24) (.cells #[.int .i64 x, .int .i64 y] 24))).keep (Same.below hB)).is
    obtain ⟨AI, cI, rfl, _⟩ := a.rI.form
    have c0 := a.blk.cell 0
    simp at c0
    have HB := Lib.hid hB
    clear hB hb1 a
    go_wp2
    go_ret
    exact ⟨rfl, own, (((Tr.refl own t w).alloc _).alloc _).below HB.out, H.out.keep ((same2 _ _).trans (by simp; omega) (Same.below HB.out))⟩
  · rw [hbx] at hsq
    have hq2 : ideq b1 b2 0 0 = false := ideq_false.2 (fun ⟨a, b⟩ => hb (by rw [a, b]))
    have hjl : (j : Int) < (ids.length : Int) := by
      unfold idxI at hbx
      split at hbx
      · rename_i hm; have := List.idxOf_lt_length_iff.2 hm; omega
      · omega
    have hj0 : ((j : Int) + 1 == 0) = false := by simp; omega
    clear hb hbx
    go_enter Try.func34, Try.ntmps34
    go_wp2_with fail
    refine (hsp.out _ _).mono ?_
    rintro e w1 ⟨rfl, hB⟩
    have hb1 := (hbox.out.alloc (.cells #[.int .i64 x, .int .i64 y] 24)).kept (hB.block w.heap.size (by simp; omega))
    have d0 := hb1.cell 0
    have d1 := hb1.cell 1
    simp at d0 d1
    have HB := Lib.hid hB
    clear hB hb1
    go_wp2_with fail
    refine (hsq.out _ _ _ HB.out).mono ?_
    rintro e w2 ⟨rfl, hB⟩
    obtain ⟨vI, vL, a⟩ := (((H.out.keep (same2 (.cells #[.int .i64 b1, .int .i64 b2] 24) (.cells #[.int .i64 x, .int .i64 y] 24))).keep (Same.below HB.out)).keep (Same.below hB)).is
    obtain ⟨AI, cI, rfl, _⟩ := a.rI.form
    have c0 := a.blk.cell 0
    simp at c0
    have HC := Lib.hid hB
    clear hB a
    go_wp2
    go_ret
    exact ⟨rfl, own, ((((Tr.refl own t w).alloc _).alloc _).below HB.out).below HC.out, (H.out.keep ((same2 _ _).trans (by simp; omega) (Same.below HB.out))).keep (Same.below HC.out)⟩

set_option maxRecDepth 100000 in
set_option maxHeartbeats 4000000 in
theorem rins_put_zero (w : World) (own : Tags) (t p : Nat) (ids : List Id) (live : List Bool) (b1 b2 x y : Int) (h : RefAt w own t p ids live) (hz : (x, y) ≠ (0, 0)) (hx : idxI (x, y) ids = -1) (hl : ids.length < 1000) (iv : Nat) (hiv : iv ≤ ids.length) (hb : (b1, b2) = (0, 0)) (hi : iv = 0) :
    Calls Try.prog 34 #[.pointer (some ⟨p, 0, none⟩), .agg #[.int .i64 b1, .int .i64 b2], .agg #[.int .i64 x, .int .i64 y]] w (RA w own t p (putAt ids iv (x, y)) (putAt live iv true) (.int .i64 0)) := by
  have hsp := Lib.hid (fun o o' => rfind_c ((w.alloc o).alloc o') own t p ids live x y (h.keep (same2 o o')))
  have hsq := Lib.hid (fun (o o' : Obj) (w1 : World) (hB : Below ((w.alloc o).alloc o').heap.size ((w.alloc o).alloc o') w1) => rfind_c w1 own t p ids live b1 b2 ((h.keep (same2 o o')).keep (Same.below hB)))
  rw [hx] at hsp
  have H := Lib.hid h
  have hq : ideq x y 0 0 = false := ideq_false.2 (fun ⟨a, b⟩ => hz (by rw [a, b]))
  have hbox := Lib.hid (Blk.new w 24 #[.int .i64 b1, .int .i64 b2])
  have hbox2 := Lib.hid (Blk.new (w.alloc (.cells #[.int .i64 b1, .int .i64 b2] 24)) 24 #[.int .i64 x, .int .i64 y])
  have hlI : (ids.length : Int) < 1000 := by omega
  clear h hx hz
  have hq2 : ideq b1 b2 0 0 = true := ideq_true.2 ⟨congrArg Prod.fst hb, congrArg Prod.snd hb⟩
  have hivI : Hid ((0 : Int) = (iv : Int)) := by show _ = _; omega
  clear hb hi
  go_enter Try.func34, Try.ntmps34
  go_wp2_with fail
  refine (hsp.out _ _).mono ?_
  rintro e w2 ⟨rfl, hB⟩
  have hb1 := (hbox.out.alloc (.cells #[.int .i64 x, .int .i64 y] 24)).kept (hB.block w.heap.size (by simp; omega))
  have d0 := hb1.cell 0
  have d1 := hb1.cell 1
  have hb2 : Hid (Blk w2 (w.heap.size + 1) 24 #[.int .i64 x, .int .i64 y]) := by
    have := hbox2.out.kept (hB.block _ (by simp))
    refine Lib.hid ?_
    simpa using this
  simp at d0 d1
  clear hb1
  have S2 : Hid (Same t own w own w2) := Lib.hid ((same2 (.cells #[.int .i64 b1, .int .i64 b2] 24) (.cells #[.int .i64 x, .int .i64 y] 24)).trans (by simp; omega) (Same.below hB))
  have tr2 := Lib.hid ((((Tr.refl own t w).alloc (.cells #[.int .i64 b1, .int .i64 b2] 24)).alloc (.cells #[.int .i64 x, .int .i64 y] 24)).below hB)
  obtain ⟨hlen0, _, vI, vL, a⟩ := H.out
  have Hlen := Lib.hid hlen0
  replace a := a.keep S2.out
  obtain ⟨AI, cI, rfl, hcI⟩ := a.rI.form
  obtain ⟨AL, cL, rfl, hcL⟩ := a.rL.form
  have c0 := a.blk.cell 0
  have e0 := hb2.out.cell 0
  have e1 := hb2.out.cell 1
  simp at c0 e0 e1
  have A2 := Lib.hid a
  clear hB a hlen0
  go_wp2_with fail
  refine region_picked [(⟨p, 0, none⟩, .slice AI ids.length cI), (⟨w.heap.size + 1, 0, none⟩, .int .i64 x), (⟨w.heap.size + 1, 1, none⟩, .int .i64 y)] [0,2,3,4,5,6,7,9,12,13,14,15,16,17] [0,1,2,3,4,5,6,7,8,9,10,11,12,13,14,15,16,17,18] 8 (by kernel_rfl) (by kernel_rfl) (by kernel_rfl) (by kernel_rfl) (by kernel_rfl) (by kernel_rfl) (fun _ _ _ _ _ h => h) ⟨c0, e0, e1, trivial⟩ ?_
  intro hne hu
  simp only [AllCells] at hu
  simp only [pick, List.take_succ_cons, List.take_zero, List.drop_succ_cons, List.drop_zero, List.cons_append, List.nil_append]
  repeat (go_big_quiet_step (fail))
  refine wpQuiet_nil ?_
  obtain ⟨i0, hi, hz0, hz1, hz2⟩ := info_parts Try.info24
  have hiv2 := hivI.out
  refine app3 [(⟨p, 0, none⟩, .slice AI ids.length cI), (⟨w.heap.size + 1, 0, none⟩, .int .i64 x), (⟨w.heap.size + 1, 1, none⟩, .int .i64 y)] 22 24 i0 _ 2 16 Try.underlying22 hi hz0 hz1 hz2 rfl (by omega) (by omega) 1 8 10 11 18 31 38 40 41 48 37 47 (.tmp 39) _ _ _ _ _ rfl rfl rfl rfl rfl rfl rfl rfl rfl rfl rfl rfl rfl rfl rfl rfl rfl rfl [.int .i64 x, .int .i64 y] (.agg #[.int .i64 x, .int .i64 y]) (bs0_ids rfl) (bs1_ids rfl x y) (by decide) (by simp) (by simp) (by decide) (by kernel_rfl) (by kernel_rfl) (by kernel_rfl) (by kernel_rfl) (by kernel_rfl) (by kernel_rfl) (by kernel_rfl) ⟨c0, e0, e1, trivial⟩ _ _ _ _ _ _ ((idCells ids).take (iv * 2)) ((idCells ids).drop (iv * 2)) rfl (fun e => ⟨rfl, ((row_src A2.out.rI).1 e).2⟩) (by simp [length_idCells]; omega) (row_ahead (A2.out.keep Same.drew).rI (iv * 2)) (fun u hu => idCells_one ids u (List.mem_of_mem_take hu)) rfl (row_src A2.out.rI).1 (by simp [length_idCells]; omega) ?_ (fun u hu => idCells_one ids u (List.mem_of_mem_drop hu)) rfl rfl (by simp [Value.oneCell']) (by omega) ?_
  · have := row_ahead (A2.out.keep Same.drew).rI (ids.length * 2)
    intro ad had j u hj
    refine this ad had j u ?_
    rw [show iv * 2 = 0 by omega, List.drop_zero] at hj
    rw [List.take_of_length_le (by rw [length_idCells]; omega)]
    exact hj
  intro v1 v8 v10 v11 v18 wk hrow hbel
  have hrow' : wk.ownsRow w2.drew.heap.size 24 2 v18 (putAt ids iv (x, y)).length (idCells (putAt ids iv (x, y))) := by
    have e : 0 + 1 + ids.length = ids.length + 1 := by omega
    rw [length_putAt, idCells_putAt]
    rwa [e] at hrow
  obtain ⟨gN, cN, rfl⟩ := ownsRow_slice hrow' (by rw [length_putAt]; omega)
  obtain ⟨hq3, own3, tr3, a3⟩ := (A2.out.keep Same.drew).newI hbel hrow'
  have f0 := hq3.frozen 0
  have g0 := hq3.cell 0
  have g1 := hq3.cell 1
  simp at g0 g1
  have c1' := a3.blk.cell 1
  simp at c1'
  have TR3 := Lib.hid tr3
  have A3 := Lib.hid a3
  clear hrow hrow' hbel tr3 a3 hq3 hne hu hi hz0 hz1 hz2 c0 e0 e1 hsp hsq hiv2
  refine anyN_restL 19 (by kernel_rfl) (by decide) (by kernel_rfl) ?_
  simp only [List.drop_succ_cons, List.drop_zero, Act.put, List.setIfInBounds_toArray, List.set_cons_succ, List.set_cons_zero]
  go_wp2_with fail
  refine region_picked [(⟨p, 1, none⟩, .slice AL live.length cL)] [0,2,3,4,5,6,7,11,12,13,14,15,16] [0,1,2,3,4,5,6,7,8,9,10,11,12,13,14,15,16,17] 8 (by kernel_rfl) (by kernel_rfl) (by kernel_rfl) (by kernel_rfl) (by kernel_rfl) (by kernel_rfl) (fun _ _ _ _ _ h => h) ⟨c1', trivial⟩ ?_
  intro hne hu
  simp only [AllCells] at hu
  simp only [pick, List.take_succ_cons, List.take_zero, List.drop_succ_cons, List.drop_zero, List.cons_append, List.nil_append]
  repeat (go_big_quiet_step (fail))
  refine wpQuiet_nil ?_
  obtain ⟨i0, hi, hz0, hz1, hz2⟩ := info_parts Try.info4
  have hll := Hlen.out
  have hiv2 := hivI.out
  refine app3 [(⟨p, 1, none⟩, .slice AL live.length cL)] 53 4 i0 _ 1 1 Try.underlying53 hi hz0 hz1 hz2 rfl (by omega) (by omega) 1 8 9 10 17 52 59 60 61 68 58 67 (.const (.bool true)) _ _ _ _ _ rfl rfl rfl rfl rfl rfl rfl rfl rfl rfl rfl rfl rfl rfl rfl rfl rfl rfl [.bool true] (.bool true) (bs0_bools rfl) (bs1_bools rfl) (by decide) (by simp) (by simp) (by decide) (by kernel_rfl) (by kernel_rfl) (by kernel_rfl) (by kernel_rfl) (by kernel_rfl) (by kernel_rfl) (by kernel_rfl) ⟨c1', trivial⟩ _ _ _ _ _ _ ((boolCells live).take iv) ((boolCells live).drop iv) rfl (fun e => ⟨rfl, ((row_src A3.out.rL).1 e).2⟩) (by simp [boolCells]; omega) (row_ahead (A3.out.keep Same.drew).rL iv) (fun u hu => boolCells_one live u (List.mem_of_mem_take hu)) rfl (row_src A3.out.rL).1 (by simp [boolCells]; omega) ?_ (fun u hu => boolCells_one live u (List.mem_of_mem_drop hu)) rfl rfl (by simp [Value.oneCell']) (by omega) ?_
  · have := row_ahead (A3.out.keep Same.drew).rL live.length
    intro ad had j u hj
    refine this ad had j u ?_
    rw [show iv = 0 by omega, List.drop_zero] at hj
    rw [List.take_of_length_le (by simp [boolCells])]
    exact hj
  intro v1 v8 v10 v11 v18 wl hrow hbel
  have hrow' : wl.ownsRow (wk.setCell ⟨p, 0, none⟩ (.slice (some ⟨gN, 0, none⟩) (putAt ids iv (x, y)).length cN)).drew.heap.size 4 1 v18 (putAt live iv true).length (boolCells (putAt live iv true)) := by
    have e : 0 + 1 + live.length = live.length + 1 := by omega
    rw [length_putAt live, boolCells_putAt]
    rwa [e] at hrow
  obtain ⟨gM, cM, rfl⟩ := ownsRow_slice hrow' (by rw [length_putAt]; omega)
  obtain ⟨hq4, own4, tr4, a4⟩ := (A3.out.keep Same.drew).newL hbel hrow'
  have f1 := hq4.frozen 1
  have h1 := hq4.cell 1
  simp at h1
  have TR4 := Lib.hid tr4
  have A4 := Lib.hid a4
  clear hrow hrow' hbel tr4 a4 hq4 hne hu hi hz0 hz1 hz2 g0 g1 f0 c1'
  refine anyN_restL 18 (by kernel_rfl) (by decide) (by kernel_rfl) ?_
  simp only [List.drop_succ_cons, List.drop_zero, Act.put, List.setIfInBounds_toArray, List.set_cons_succ, List.set_cons_zero]
  go_wp2_with fail
  go_ret
  exact ⟨rfl, own4, ((tr2.out.drew).trans TR3.out).drew.trans TR4.out, by rw [length_putAt, length_putAt, Hlen.out], by rw [length_putAt]; omega, _, _, A4.out⟩

end Go.Proofs.Ytgmlhpkhecbkoaa
