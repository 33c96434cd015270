/-
  value.Right: its contract. Condition: the ints fit 64 bits.
-/
import Derived.Test.YtccnkkffeokgcaaGreatDoorQ5
namespace Go.Proofs.YtccnkkffeokgcaaGreatDoor
open Go.RowKit
def RgV (w : World) (x : Val) (e : Ending) (w' : World) : Prop := ∃ b : Bool, e = .returned (.bool b) ∧ (b = true ↔ RightV x) ∧ Below w.heap.size w w'
theorem vtext_le (t : ByteArray) (h : t.size ≤ 255) (w : World) : Calls Tryz.prog 124 #[.string t] w fun x w' => x = .returned (.agg #[.int .i64 2, .int .i64 0, .int .i64 0, .string t, .bool false, .int .i64 0]) ∧ Below w.heap.size w w' := by
  have := vtext_c t w
  unfold textV at this
  rw [if_pos h] at this
  exact this
theorem vtext_gt (t : ByteArray) (h : ¬ t.size ≤ 255) (w : World) : Calls Tryz.prog 124 #[.string t] w fun x w' => x = .returned (.agg #[.int .i64 4, .int .i64 0, .int .i64 0, .string ⟨#[]⟩, .bool false, .int .i64 2]) ∧ Below w.heap.size w w' := by
  have := vtext_c t w
  unfold textV at this
  rw [if_neg h, badV_in (by omega)] at this
  exact this
set_option maxRecDepth 100000 in
set_option maxHeartbeats 4000000 in
theorem vright_k2 (w : World) (m ex : Int) (t : ByteArray) (b : Bool) (f : Int)(ht : t.size ≤ 255) : Calls Tryz.prog 74 #[.agg #[.int .i64 2, .int .i64 m, .int .i64 ex, .string t, .bool b, .int .i64 f]] w (RgV w ⟨2, m, ex, t, b, f⟩) := by
  have HB := Lib.hid ((Below.refl _ w).alloc (Nat.le_refl _) (.cells #[.int .i64 2, .int .i64 m, .int .i64 ex, .string t, .bool b, .int .i64 f] 41))
  have bX := Lib.hid (Blk.new w 41 #[.int .i64 2, .int .i64 m, .int .i64 ex, .string t, .bool b, .int .i64 f])
  have HI := Lib.hid (show veq ⟨2, m, ex, t, b, f⟩ ⟨2, 0, 0, t, false, 0⟩ = true ↔ RightV ⟨2, m, ex, t, b, f⟩ by have := rightV_kind2 (m := m) (e := ex) (t := t) (b := b) (f := f); rw [if_pos ht] at this; exact this)
  have HT := Lib.hid (vtext_le t ht)
  clear ht
  go_enter Tryz.func74, Tryz.ntmps74
  go_wp2_with fail
  generalize w.alloc (.cells #[.int .i64 2, .int .i64 m, .int .i64 ex, .string t, .bool b, .int .i64 f] 41) = V at *
  have HC : AllCells V.drew [(⟨w.heap.size, 0, none⟩, .int .i64 2), (⟨w.heap.size, 1, none⟩, .int .i64 m), (⟨w.heap.size, 2, none⟩, .int .i64 ex), (⟨w.heap.size, 3, none⟩, .string t), (⟨w.heap.size, 4, none⟩, .bool b), (⟨w.heap.size, 5, none⟩, .int .i64 f)] := ⟨bX.out.cell 0, bX.out.cell 1, bX.out.cell 2, bX.out.cell 3, bX.out.cell 4, bX.out.cell 5, trivial⟩
  refine region_free _ [0, 1, 2] 3 (by kernel_rfl) (by kernel_rfl) (by kernel_rfl) (by kernel_rfl) (by kernel_rfl) (fun _ _ _ _ _ h => h) HC ?_
  intro hne hu
  simp only [AllCells] at hu
  simp only [pick, List.take_succ_cons, List.take_zero, List.drop_succ_cons, List.drop_zero, List.cons_append, List.nil_append]
  repeat (go_big_quiet_step (fail))
  refine wpQuiet_nil ?_
  clear hne hu
  refine anyN_oneL 3 (by kernel_rfl) ?_
  simp only [List.take_succ_cons, List.take_zero, List.drop_succ_cons, List.drop_zero]
  go_wp2_with fail
  refine (HT.out _).mono ?_
  rintro e w1 ⟨rfl, b1⟩
  have HC1 := AllCells.below HC b1
  have HB1 := Lib.hid (HB.out.drew.trans (b1.mono HB.out.size))
  clear b1 HC HB bX
  go_wp2_with fail
  refine And.intro (fun _ => HC1) ?_
  refine anyN_more [4, 5] 0 (by kernel_rfl) (by kernel_rfl) (by kernel_rfl) (by kernel_rfl) (fun _ _ _ _ _ h => h) HC1 ?_
  intro hne hu
  simp only [AllCells] at hu
  simp only [pick, List.take_succ_cons, List.take_zero, List.drop_succ_cons, List.drop_zero, List.cons_append, List.nil_append]
  repeat (go_big_quiet_step (fail))
  refine wpQuiet_nil ?_
  clear hne hu
  refine ⟨by kernel_rfl, ?_⟩
  clear HC1
  go_wp2_with fail
  go_ret
  exact ⟨_, rfl, HI.out, HB1.out⟩
set_option maxRecDepth 100000 in
set_option maxHeartbeats 4000000 in
theorem vright_k2g (w : World) (m ex : Int) (t : ByteArray) (b : Bool) (f : Int)(ht : ¬ t.size ≤ 255) : Calls Tryz.prog 74 #[.agg #[.int .i64 2, .int .i64 m, .int .i64 ex, .string t, .bool b, .int .i64 f]] w (RgV w ⟨2, m, ex, t, b, f⟩) := by
  have HB := Lib.hid ((Below.refl _ w).alloc (Nat.le_refl _) (.cells #[.int .i64 2, .int .i64 m, .int .i64 ex, .string t, .bool b, .int .i64 f] 41))
  have bX := Lib.hid (Blk.new w 41 #[.int .i64 2, .int .i64 m, .int .i64 ex, .string t, .bool b, .int .i64 f])
  have HI := Lib.hid (show veq ⟨2, m, ex, t, b, f⟩ ⟨4, 0, 0, ⟨#[]⟩, false, 2⟩ = true ↔ RightV ⟨2, m, ex, t, b, f⟩ by have := rightV_kind2 (m := m) (e := ex) (t := t) (b := b) (f := f); rw [if_neg ht, badV_in (by omega)] at this; exact this)
  have HT := Lib.hid (vtext_gt t ht)
  clear ht
  go_enter Tryz.func74, Tryz.ntmps74
  go_wp2_with fail
  generalize w.alloc (.cells #[.int .i64 2, .int .i64 m, .int .i64 ex, .string t, .bool b, .int .i64 f] 41) = V at *
  have HC : AllCells V.drew [(⟨w.heap.size, 0, none⟩, .int .i64 2), (⟨w.heap.size, 1, none⟩, .int .i64 m), (⟨w.heap.size, 2, none⟩, .int .i64 ex), (⟨w.heap.size, 3, none⟩, .string t), (⟨w.heap.size, 4, none⟩, .bool b), (⟨w.heap.size, 5, none⟩, .int .i64 f)] := ⟨bX.out.cell 0, bX.out.cell 1, bX.out.cell 2, bX.out.cell 3, bX.out.cell 4, bX.out.cell 5, trivial⟩
  refine region_free _ [0, 1, 2] 3 (by kernel_rfl) (by kernel_rfl) (by kernel_rfl) (by kernel_rfl) (by kernel_rfl) (fun _ _ _ _ _ h => h) HC ?_
  intro hne hu
  simp only [AllCells] at hu
  simp only [pick, List.take_succ_cons, List.take_zero, List.drop_succ_cons, List.drop_zero, List.cons_append, List.nil_append]
  repeat (go_big_quiet_step (fail))
  refine wpQuiet_nil ?_
  clear hne hu
  refine anyN_oneL 3 (by kernel_rfl) ?_
  simp only [List.take_succ_cons, List.take_zero, List.drop_succ_cons, List.drop_zero]
  go_wp2_with fail
  refine (HT.out _).mono ?_
  rintro e w1 ⟨rfl, b1⟩
  have HC1 := AllCells.below HC b1
  have HB1 := Lib.hid (HB.out.drew.trans (b1.mono HB.out.size))
  clear b1 HC HB bX
  go_wp2_with fail
  refine And.intro (fun _ => HC1) ?_
  refine anyN_more [4, 5] 0 (by kernel_rfl) (by kernel_rfl) (by kernel_rfl) (by kernel_rfl) (fun _ _ _ _ _ h => h) HC1 ?_
  intro hne hu
  simp only [AllCells] at hu
  simp only [pick, List.take_succ_cons, List.take_zero, List.drop_succ_cons, List.drop_zero, List.cons_append, List.nil_append]
  repeat (go_big_quiet_step (fail))
  refine wpQuiet_nil ?_
  clear hne hu
  refine ⟨by kernel_rfl, ?_⟩
  clear HC1
  go_wp2_with fail
  go_ret
  exact ⟨_, rfl, HI.out, HB1.out⟩
set_option maxRecDepth 100000 in
set_option maxHeartbeats 4000000 in
theorem vright_k3 (w : World) (m ex : Int) (t : ByteArray) (b : Bool) (f : Int) : Calls Tryz.prog 74 #[.agg #[.int .i64 3, .int .i64 m, .int .i64 ex, .string t, .bool b, .int .i64 f]] w (RgV w ⟨3, m, ex, t, b, f⟩) := by
  have HB := Lib.hid ((Below.refl _ w).alloc (Nat.le_refl _) (.cells #[.int .i64 3, .int .i64 m, .int .i64 ex, .string t, .bool b, .int .i64 f] 41))
  have bX := Lib.hid (Blk.new w 41 #[.int .i64 3, .int .i64 m, .int .i64 ex, .string t, .bool b, .int .i64 f])
  have HI := Lib.hid (rightV_kind3 (m := m) (e := ex) (t := t) (b := b) (f := f))
  go_enter Tryz.func74, Tryz.ntmps74
  go_wp2_with fail
  generalize w.alloc (.cells #[.int .i64 3, .int .i64 m, .int .i64 ex, .string t, .bool b, .int .i64 f] 41) = V at *
  have HC : AllCells V.drew [(⟨w.heap.size, 0, none⟩, .int .i64 3), (⟨w.heap.size, 1, none⟩, .int .i64 m), (⟨w.heap.size, 2, none⟩, .int .i64 ex), (⟨w.heap.size, 3, none⟩, .string t), (⟨w.heap.size, 4, none⟩, .bool b), (⟨w.heap.size, 5, none⟩, .int .i64 f)] := ⟨bX.out.cell 0, bX.out.cell 1, bX.out.cell 2, bX.out.cell 3, bX.out.cell 4, bX.out.cell 5, trivial⟩
  refine region_free _ [0, 1, 2] 3 (by kernel_rfl) (by kernel_rfl) (by kernel_rfl) (by kernel_rfl) (by kernel_rfl) (fun _ _ _ _ _ h => h) HC ?_
  intro hne hu
  simp only [AllCells] at hu
  simp only [pick, List.take_succ_cons, List.take_zero, List.drop_succ_cons, List.drop_zero, List.cons_append, List.nil_append]
  repeat (go_big_quiet_step (fail))
  refine wpQuiet_nil ?_
  clear hne hu
  refine anyN_oneL 3 (by kernel_rfl) ?_
  simp only [List.take_succ_cons, List.take_zero, List.drop_succ_cons, List.drop_zero]
  go_wp2_with fail
  refine (vtruth_c b _).mono ?_
  rintro e w1 ⟨rfl, b1⟩
  have HC1 := AllCells.below HC b1
  have HB1 := Lib.hid (HB.out.drew.trans (b1.mono HB.out.size))
  clear b1 HC HB bX
  go_wp2_with fail
  refine And.intro (fun _ => HC1) ?_
  refine anyN_more [4, 5] 0 (by kernel_rfl) (by kernel_rfl) (by kernel_rfl) (by kernel_rfl) (fun _ _ _ _ _ h => h) HC1 ?_
  intro hne hu
  simp only [AllCells] at hu
  simp only [pick, List.take_succ_cons, List.take_zero, List.drop_succ_cons, List.drop_zero, List.cons_append, List.nil_append]
  repeat (go_big_quiet_step (fail))
  refine wpQuiet_nil ?_
  clear hne hu
  refine ⟨by kernel_rfl, ?_⟩
  clear HC1
  go_wp2_with fail
  go_ret
  exact ⟨_, rfl, HI.out, HB1.out⟩
theorem badV_out {f : Int} (h : ¬ (1 ≤ f ∧ f ≤ 9)) : badV f = ⟨4, 0, 0, ⟨#[]⟩, false, 9⟩ := by unfold badV; rw [if_neg h]
theorem vbado_c (f : Int) (h : ¬ (1 ≤ f ∧ f ≤ 9)) (w : World) : Calls Tryz.prog 37 #[.int .i64 f] w fun x w' => x = .returned (.agg #[.int .i64 4, .int .i64 0, .int .i64 0, .string ⟨#[]⟩, .bool false, .int .i64 9]) ∧ Below w.heap.size w w' := by
  have := vbad_c f w
  rw [badV_out h] at this
  exact this
set_option maxRecDepth 100000 in
set_option maxHeartbeats 4000000 in
theorem vright_k4 (w : World) (m ex : Int) (t : ByteArray) (b : Bool) (f : Int)(h : 1 ≤ f ∧ f ≤ 9) : Calls Tryz.prog 74 #[.agg #[.int .i64 4, .int .i64 m, .int .i64 ex, .string t, .bool b, .int .i64 f]] w (RgV w ⟨4, m, ex, t, b, f⟩) := by
  have HB := Lib.hid ((Below.refl _ w).alloc (Nat.le_refl _) (.cells #[.int .i64 4, .int .i64 m, .int .i64 ex, .string t, .bool b, .int .i64 f] 41))
  have bX := Lib.hid (Blk.new w 41 #[.int .i64 4, .int .i64 m, .int .i64 ex, .string t, .bool b, .int .i64 f])
  have HI := Lib.hid (show veq ⟨4, m, ex, t, b, f⟩ ⟨4, 0, 0, ⟨#[]⟩, false, f⟩ = true ↔ RightV ⟨4, m, ex, t, b, f⟩ by have := rightV_kind4 (m := m) (e := ex) (t := t) (b := b) (f := f); rw [badV_in h] at this; exact this)
  have HT := Lib.hid (vbadn_c f h)
  clear h
  go_enter Tryz.func74, Tryz.ntmps74
  go_wp2_with fail
  generalize w.alloc (.cells #[.int .i64 4, .int .i64 m, .int .i64 ex, .string t, .bool b, .int .i64 f] 41) = V at *
  have HC : AllCells V.drew [(⟨w.heap.size, 0, none⟩, .int .i64 4), (⟨w.heap.size, 1, none⟩, .int .i64 m), (⟨w.heap.size, 2, none⟩, .int .i64 ex), (⟨w.heap.size, 3, none⟩, .string t), (⟨w.heap.size, 4, none⟩, .bool b), (⟨w.heap.size, 5, none⟩, .int .i64 f)] := ⟨bX.out.cell 0, bX.out.cell 1, bX.out.cell 2, bX.out.cell 3, bX.out.cell 4, bX.out.cell 5, trivial⟩
  refine region_free _ [0, 1, 2] 3 (by kernel_rfl) (by kernel_rfl) (by kernel_rfl) (by kernel_rfl) (by kernel_rfl) (fun _ _ _ _ _ h => h) HC ?_
  intro hne hu
  simp only [AllCells] at hu
  simp only [pick, List.take_succ_cons, List.take_zero, List.drop_succ_cons, List.drop_zero, List.cons_append, List.nil_append]
  repeat (go_big_quiet_step (fail))
  refine wpQuiet_nil ?_
  clear hne hu
  refine anyN_oneL 3 (by kernel_rfl) ?_
  simp only [List.take_succ_cons, List.take_zero, List.drop_succ_cons, List.drop_zero]
  go_wp2_with fail
  refine (HT.out _).mono ?_
  rintro e w1 ⟨rfl, b1⟩
  have HC1 := AllCells.below HC b1
  have HB1 := Lib.hid (HB.out.drew.trans (b1.mono HB.out.size))
  clear b1 HC HB bX
  go_wp2_with fail
  refine And.intro (fun _ => HC1) ?_
  refine anyN_more [4, 5] 0 (by kernel_rfl) (by kernel_rfl) (by kernel_rfl) (by kernel_rfl) (fun _ _ _ _ _ h => h) HC1 ?_
  intro hne hu
  simp only [AllCells] at hu
  simp only [pick, List.take_succ_cons, List.take_zero, List.drop_succ_cons, List.drop_zero, List.cons_append, List.nil_append]
  repeat (go_big_quiet_step (fail))
  refine wpQuiet_nil ?_
  clear hne hu
  refine ⟨by kernel_rfl, ?_⟩
  clear HC1
  go_wp2_with fail
  go_ret
  exact ⟨_, rfl, HI.out, HB1.out⟩
set_option maxRecDepth 100000 in
set_option maxHeartbeats 4000000 in
theorem vright_k4g (w : World) (m ex : Int) (t : ByteArray) (b : Bool) (f : Int)(h : ¬ (1 ≤ f ∧ f ≤ 9)) : Calls Tryz.prog 74 #[.agg #[.int .i64 4, .int .i64 m, .int .i64 ex, .string t, .bool b, .int .i64 f]] w (RgV w ⟨4, m, ex, t, b, f⟩) := by
  have HB := Lib.hid ((Below.refl _ w).alloc (Nat.le_refl _) (.cells #[.int .i64 4, .int .i64 m, .int .i64 ex, .string t, .bool b, .int .i64 f] 41))
  have bX := Lib.hid (Blk.new w 41 #[.int .i64 4, .int .i64 m, .int .i64 ex, .string t, .bool b, .int .i64 f])
  have HI := Lib.hid (show veq ⟨4, m, ex, t, b, f⟩ ⟨4, 0, 0, ⟨#[]⟩, false, 9⟩ = true ↔ RightV ⟨4, m, ex, t, b, f⟩ by have := rightV_kind4 (m := m) (e := ex) (t := t) (b := b) (f := f); rw [badV_out h] at this; exact this)
  have HT := Lib.hid (vbado_c f h)
  clear h
  go_enter Tryz.func74, Tryz.ntmps74
  go_wp2_with fail
  generalize w.alloc (.cells #[.int .i64 4, .int .i64 m, .int .i64 ex, .string t, .bool b, .int .i64 f] 41) = V at *
  have HC : AllCells V.drew [(⟨w.heap.size, 0, none⟩, .int .i64 4), (⟨w.heap.size, 1, none⟩, .int .i64 m), (⟨w.heap.size, 2, none⟩, .int .i64 ex), (⟨w.heap.size, 3, none⟩, .string t), (⟨w.heap.size, 4, none⟩, .bool b), (⟨w.heap.size, 5, none⟩, .int .i64 f)] := ⟨bX.out.cell 0, bX.out.cell 1, bX.out.cell 2, bX.out.cell 3, bX.out.cell 4, bX.out.cell 5, trivial⟩
  refine region_free _ [0, 1, 2] 3 (by kernel_rfl) (by kernel_rfl) (by kernel_rfl) (by kernel_rfl) (by kernel_rfl) (fun _ _ _ _ _ h => h) HC ?_
  intro hne hu
  simp only [AllCells] at hu
  simp only [pick, List.take_succ_cons, List.take_zero, List.drop_succ_cons, List.drop_zero, List.cons_append, List.nil_append]
  repeat (go_big_quiet_step (fail))
  refine wpQuiet_nil ?_
  clear hne hu
  refine anyN_oneL 3 (by kernel_rfl) ?_
  simp only [List.take_succ_cons, List.take_zero, List.drop_succ_cons, List.drop_zero]
  go_wp2_with fail
  refine (HT.out _).mono ?_
  rintro e w1 ⟨rfl, b1⟩
  have HC1 := AllCells.below HC b1
  have HB1 := Lib.hid (HB.out.drew.trans (b1.mono HB.out.size))
  clear b1 HC HB bX
  go_wp2_with fail
  refine And.intro (fun _ => HC1) ?_
  refine anyN_more [4, 5] 0 (by kernel_rfl) (by kernel_rfl) (by kernel_rfl) (by kernel_rfl) (fun _ _ _ _ _ h => h) HC1 ?_
  intro hne hu
  simp only [AllCells] at hu
  simp only [pick, List.take_succ_cons, List.take_zero, List.drop_succ_cons, List.drop_zero, List.cons_append, List.nil_append]
  repeat (go_big_quiet_step (fail))
  refine wpQuiet_nil ?_
  clear hne hu
  refine ⟨by kernel_rfl, ?_⟩
  clear HC1
  go_wp2_with fail
  go_ret
  exact ⟨_, rfl, HI.out, HB1.out⟩
set_option maxRecDepth 100000 in
set_option maxHeartbeats 4000000 in
theorem vright_k0 (w : World) (m ex : Int) (t : ByteArray) (b : Bool) (f : Int) : Calls Tryz.prog 74 #[.agg #[.int .i64 0, .int .i64 m, .int .i64 ex, .string t, .bool b, .int .i64 f]] w (RgV w ⟨0, m, ex, t, b, f⟩) := by
  go_enter Tryz.func74, Tryz.ntmps74
  go_wp2_with fail
  go_ret
  exact ⟨_, rfl, rightV_kind0, (Below.refl _ w).alloc (Nat.le_refl _) _⟩
set_option maxRecDepth 100000 in
set_option maxHeartbeats 4000000 in
theorem vright_kk (w : World) (m ex : Int) (t : ByteArray) (b : Bool) (f : Int) (k : Int) (k0 : ¬k = 0) (k1 : ¬k = 1) (k2 : ¬k = 2) (k3 : ¬k = 3) (k4 : ¬k = 4) : Calls Tryz.prog 74 #[.agg #[.int .i64 k, .int .i64 m, .int .i64 ex, .string t, .bool b, .int .i64 f]] w (RgV w ⟨k, m, ex, t, b, f⟩) := by
  have HI := Lib.hid (rightV_other (m := m) (e := ex) (t := t) (b := b) (f := f) k0 k1 k2 k3 k4)
  go_enter Tryz.func74, Tryz.ntmps74
  go_wp2_with fail
  go_ret
  exact ⟨_, rfl, ⟨(fun h => by cases h), fun h => absurd h HI.out⟩, (Below.refl _ w).alloc (Nat.le_refl _) _⟩
end Go.Proofs.YtccnkkffeokgcaaGreatDoor
