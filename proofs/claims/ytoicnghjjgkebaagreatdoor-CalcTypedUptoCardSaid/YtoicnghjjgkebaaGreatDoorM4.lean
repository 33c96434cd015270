/-
  value.Right: its contract. Condition: the ints fit 64 bits.
  value.Right: its contract. Condition: the ints fit 64 bits.
  counterpaneref02.Right: its contract. Condition: the ints fit 64 bits.
  Boxes one behind the other; trees in memory; counterpaneref06.Nodes: its contract. Conditions: the nodes can be read; they are not too many.
-/
import Derived.Test.YtoicnghjjgkebaaGreatDoorQ5
set_option linter.unusedSectionVars false
set_option linter.unusedSimpArgs false
set_option linter.unusedVariables false
set_option linter.unnecessarySimpa false
namespace Go.Proofs.YtoicnghjjgkebaaGreatDoor
open Go.RowKit
def RgV (w : World) (x : Val) (e : Ending) (w' : World) : Prop := ∃ b : Bool, e = .returned (.bool b) ∧ (b = true ↔ RightV x) ∧ Below w.heap.size w w'
theorem vtext_le (t : ByteArray) (h : t.size ≤ 255) (w : World) : Calls Tryz.prog 114 #[.string t] w fun x w' => x = .returned (.agg #[.int .i64 2, .int .i64 0, .int .i64 0, .string t, .bool false, .int .i64 0]) ∧ Below w.heap.size w w' := by
  have := vtext_c t w
  unfold textV at this
  rw [if_pos h] at this
  exact this
theorem vtext_gt (t : ByteArray) (h : ¬ t.size ≤ 255) (w : World) : Calls Tryz.prog 114 #[.string t] w fun x w' => x = .returned (.agg #[.int .i64 4, .int .i64 0, .int .i64 0, .string ⟨#[]⟩, .bool false, .int .i64 2]) ∧ Below w.heap.size w w' := by
  have := vtext_c t w
  unfold textV at this
  rw [if_neg h, badV_in (by omega)] at this
  exact this
set_option maxRecDepth 100000 in
set_option maxHeartbeats 4000000 in
theorem vright_k2 (w : World) (m ex : Int) (t : ByteArray) (b : Bool) (f : Int)(ht : t.size ≤ 255) : Calls Tryz.prog 56 #[.agg #[.int .i64 2, .int .i64 m, .int .i64 ex, .string t, .bool b, .int .i64 f]] w (RgV w ⟨2, m, ex, t, b, f⟩) := by
  have HB := Lib.hid ((Below.refl _ w).alloc (Nat.le_refl _) (.cells #[.int .i64 2, .int .i64 m, .int .i64 ex, .string t, .bool b, .int .i64 f] 33))
  have bX := Lib.hid (Blk.new w 33 #[.int .i64 2, .int .i64 m, .int .i64 ex, .string t, .bool b, .int .i64 f])
  have HI := Lib.hid (show veq ⟨2, m, ex, t, b, f⟩ ⟨2, 0, 0, t, false, 0⟩ = true ↔ RightV ⟨2, m, ex, t, b, f⟩ by have := rightV_kind2 (m := m) (e := ex) (t := t) (b := b) (f := f); rw [if_pos ht] at this; exact this)
  have HT := Lib.hid (vtext_le t ht)
  clear ht
  go_enter Tryz.func56, Tryz.ntmps56
  go_wp2_with fail
  generalize w.alloc (.cells #[.int .i64 2, .int .i64 m, .int .i64 ex, .string t, .bool b, .int .i64 f] 33) = V at *
  have HC : AllCells V.drew [(⟨w.heap.size, 0, none⟩, .int .i64 2), (⟨w.heap.size, 1, none⟩, .int .i64 m), (⟨w.heap.size, 2, none⟩, .int .i64 ex), (⟨w.heap.size, 3, none⟩, .string t), (⟨w.heap.size, 4, none⟩, .bool b), (⟨w.heap.size, 5, none⟩, .int .i64 f)] := ⟨bX.out.cell 0, bX.out.cell 1, bX.out.cell 2, bX.out.cell 3, bX.out.cell 4, bX.out.cell 5, trivial⟩
  refine rfree [0, 1, 2] 3 (by kernel_rfl) (fun _ _ _ _ _ h => h) HC ?_
  intro hne hu; try simp only [AllCells] at hu
  simp only [pick, pk]
  repeat (go_big_quiet_step (fail))
  refine wpQuiet_nil ?_; clear hne hu
  refine anyN_oneL 3 (by kernel_rfl) ?_; simp only [pk]
  go_wp2_with fail
  refine (HT.out _).mono ?_
  rintro e w1 ⟨rfl, b1⟩
  have HC1 := AllCells.below HC b1
  have HB1 := Lib.hid (HB.out.drew.trans (b1.mono HB.out.size))
  clear b1 HC HB bX
  go_wp2_with fail
  refine And.intro (by first | exact fun _ => HC1 | exact HC1) ?_
  refine rmore [4, 5] 0 (by kernel_rfl) (fun _ _ _ _ _ h => h) HC1 ?_
  intro hne hu; try simp only [AllCells] at hu
  simp only [pick, pk]
  repeat (go_big_quiet_step (fail))
  refine wpQuiet_nil ?_; clear hne hu
  refine ⟨by kernel_rfl, ?_⟩
  clear HC1
  go_wp2_with fail
  go_ret
  exact ⟨_, rfl, HI.out, HB1.out⟩
set_option maxRecDepth 100000 in
set_option maxHeartbeats 4000000 in
theorem vright_k2g (w : World) (m ex : Int) (t : ByteArray) (b : Bool) (f : Int)(ht : ¬ t.size ≤ 255) : Calls Tryz.prog 56 #[.agg #[.int .i64 2, .int .i64 m, .int .i64 ex, .string t, .bool b, .int .i64 f]] w (RgV w ⟨2, m, ex, t, b, f⟩) := by
  have HB := Lib.hid ((Below.refl _ w).alloc (Nat.le_refl _) (.cells #[.int .i64 2, .int .i64 m, .int .i64 ex, .string t, .bool b, .int .i64 f] 33))
  have bX := Lib.hid (Blk.new w 33 #[.int .i64 2, .int .i64 m, .int .i64 ex, .string t, .bool b, .int .i64 f])
  have HI := Lib.hid (show veq ⟨2, m, ex, t, b, f⟩ ⟨4, 0, 0, ⟨#[]⟩, false, 2⟩ = true ↔ RightV ⟨2, m, ex, t, b, f⟩ by have := rightV_kind2 (m := m) (e := ex) (t := t) (b := b) (f := f); rw [if_neg ht, badV_in (by omega)] at this; exact this)
  have HT := Lib.hid (vtext_gt t ht)
  clear ht
  go_enter Tryz.func56, Tryz.ntmps56
  go_wp2_with fail
  generalize w.alloc (.cells #[.int .i64 2, .int .i64 m, .int .i64 ex, .string t, .bool b, .int .i64 f] 33) = V at *
  have HC : AllCells V.drew [(⟨w.heap.size, 0, none⟩, .int .i64 2), (⟨w.heap.size, 1, none⟩, .int .i64 m), (⟨w.heap.size, 2, none⟩, .int .i64 ex), (⟨w.heap.size, 3, none⟩, .string t), (⟨w.heap.size, 4, none⟩, .bool b), (⟨w.heap.size, 5, none⟩, .int .i64 f)] := ⟨bX.out.cell 0, bX.out.cell 1, bX.out.cell 2, bX.out.cell 3, bX.out.cell 4, bX.out.cell 5, trivial⟩
  refine rfree [0, 1, 2] 3 (by kernel_rfl) (fun _ _ _ _ _ h => h) HC ?_
  intro hne hu; try simp only [AllCells] at hu
  simp only [pick, pk]
  repeat (go_big_quiet_step (fail))
  refine wpQuiet_nil ?_; clear hne hu
  refine anyN_oneL 3 (by kernel_rfl) ?_; simp only [pk]
  go_wp2_with fail
  refine (HT.out _).mono ?_
  rintro e w1 ⟨rfl, b1⟩
  have HC1 := AllCells.below HC b1
  have HB1 := Lib.hid (HB.out.drew.trans (b1.mono HB.out.size))
  clear b1 HC HB bX
  go_wp2_with fail
  refine And.intro (by first | exact fun _ => HC1 | exact HC1) ?_
  refine rmore [4, 5] 0 (by kernel_rfl) (fun _ _ _ _ _ h => h) HC1 ?_
  intro hne hu; try simp only [AllCells] at hu
  simp only [pick, pk]
  repeat (go_big_quiet_step (fail))
  refine wpQuiet_nil ?_; clear hne hu
  refine ⟨by kernel_rfl, ?_⟩
  clear HC1
  go_wp2_with fail
  go_ret
  exact ⟨_, rfl, HI.out, HB1.out⟩
set_option maxRecDepth 100000 in
set_option maxHeartbeats 4000000 in
theorem vright_k3 (w : World) (m ex : Int) (t : ByteArray) (b : Bool) (f : Int) : Calls Tryz.prog 56 #[.agg #[.int .i64 3, .int .i64 m, .int .i64 ex, .string t, .bool b, .int .i64 f]] w (RgV w ⟨3, m, ex, t, b, f⟩) := by
  have HB := Lib.hid ((Below.refl _ w).alloc (Nat.le_refl _) (.cells #[.int .i64 3, .int .i64 m, .int .i64 ex, .string t, .bool b, .int .i64 f] 33))
  have bX := Lib.hid (Blk.new w 33 #[.int .i64 3, .int .i64 m, .int .i64 ex, .string t, .bool b, .int .i64 f])
  have HI := Lib.hid (rightV_kind3 (m := m) (e := ex) (t := t) (b := b) (f := f))
  go_enter Tryz.func56, Tryz.ntmps56
  go_wp2_with fail
  generalize w.alloc (.cells #[.int .i64 3, .int .i64 m, .int .i64 ex, .string t, .bool b, .int .i64 f] 33) = V at *
  have HC : AllCells V.drew [(⟨w.heap.size, 0, none⟩, .int .i64 3), (⟨w.heap.size, 1, none⟩, .int .i64 m), (⟨w.heap.size, 2, none⟩, .int .i64 ex), (⟨w.heap.size, 3, none⟩, .string t), (⟨w.heap.size, 4, none⟩, .bool b), (⟨w.heap.size, 5, none⟩, .int .i64 f)] := ⟨bX.out.cell 0, bX.out.cell 1, bX.out.cell 2, bX.out.cell 3, bX.out.cell 4, bX.out.cell 5, trivial⟩
  refine rfree [0, 1, 2] 3 (by kernel_rfl) (fun _ _ _ _ _ h => h) HC ?_
  intro hne hu; try simp only [AllCells] at hu
  simp only [pick, pk]
  repeat (go_big_quiet_step (fail))
  refine wpQuiet_nil ?_; clear hne hu
  refine anyN_oneL 3 (by kernel_rfl) ?_; simp only [pk]
  go_wp2_with fail
  refine (vtruth_c b _).mono ?_
  rintro e w1 ⟨rfl, b1⟩
  have HC1 := AllCells.below HC b1
  have HB1 := Lib.hid (HB.out.drew.trans (b1.mono HB.out.size))
  clear b1 HC HB bX
  go_wp2_with fail
  refine And.intro (by first | exact fun _ => HC1 | exact HC1) ?_
  refine rmore [4, 5] 0 (by kernel_rfl) (fun _ _ _ _ _ h => h) HC1 ?_
  intro hne hu; try simp only [AllCells] at hu
  simp only [pick, pk]
  repeat (go_big_quiet_step (fail))
  refine wpQuiet_nil ?_; clear hne hu
  refine ⟨by kernel_rfl, ?_⟩
  clear HC1
  go_wp2_with fail
  go_ret
  exact ⟨_, rfl, HI.out, HB1.out⟩
theorem badV_out {f : Int} (h : ¬ (1 ≤ f ∧ f ≤ 9)) : badV f = ⟨4, 0, 0, ⟨#[]⟩, false, 9⟩ := by unfold badV; rw [if_neg h]
theorem vbado_c (f : Int) (h : ¬ (1 ≤ f ∧ f ≤ 9)) (w : World) : Calls Tryz.prog 87 #[.int .i64 f] w fun x w' => x = .returned (.agg #[.int .i64 4, .int .i64 0, .int .i64 0, .string ⟨#[]⟩, .bool false, .int .i64 9]) ∧ Below w.heap.size w w' := by
  have := vbad_c f w
  rw [badV_out h] at this
  exact this
set_option maxRecDepth 100000 in
set_option maxHeartbeats 4000000 in
theorem vright_k4 (w : World) (m ex : Int) (t : ByteArray) (b : Bool) (f : Int)(h : 1 ≤ f ∧ f ≤ 9) : Calls Tryz.prog 56 #[.agg #[.int .i64 4, .int .i64 m, .int .i64 ex, .string t, .bool b, .int .i64 f]] w (RgV w ⟨4, m, ex, t, b, f⟩) := by
  have HB := Lib.hid ((Below.refl _ w).alloc (Nat.le_refl _) (.cells #[.int .i64 4, .int .i64 m, .int .i64 ex, .string t, .bool b, .int .i64 f] 33))
  have bX := Lib.hid (Blk.new w 33 #[.int .i64 4, .int .i64 m, .int .i64 ex, .string t, .bool b, .int .i64 f])
  have HI := Lib.hid (show veq ⟨4, m, ex, t, b, f⟩ ⟨4, 0, 0, ⟨#[]⟩, false, f⟩ = true ↔ RightV ⟨4, m, ex, t, b, f⟩ by have := rightV_kind4 (m := m) (e := ex) (t := t) (b := b) (f := f); rw [badV_in h] at this; exact this)
  have HT := Lib.hid (vbadn_c f h)
  clear h
  go_enter Tryz.func56, Tryz.ntmps56
  go_wp2_with fail
  generalize w.alloc (.cells #[.int .i64 4, .int .i64 m, .int .i64 ex, .string t, .bool b, .int .i64 f] 33) = V at *
  have HC : AllCells V.drew [(⟨w.heap.size, 0, none⟩, .int .i64 4), (⟨w.heap.size, 1, none⟩, .int .i64 m), (⟨w.heap.size, 2, none⟩, .int .i64 ex), (⟨w.heap.size, 3, none⟩, .string t), (⟨w.heap.size, 4, none⟩, .bool b), (⟨w.heap.size, 5, none⟩, .int .i64 f)] := ⟨bX.out.cell 0, bX.out.cell 1, bX.out.cell 2, bX.out.cell 3, bX.out.cell 4, bX.out.cell 5, trivial⟩
  refine rfree [0, 1, 2] 3 (by kernel_rfl) (fun _ _ _ _ _ h => h) HC ?_
  intro hne hu; try simp only [AllCells] at hu
  simp only [pick, pk]
  repeat (go_big_quiet_step (fail))
  refine wpQuiet_nil ?_; clear hne hu
  refine anyN_oneL 3 (by kernel_rfl) ?_; simp only [pk]
  go_wp2_with fail
  refine (HT.out _).mono ?_
  rintro e w1 ⟨rfl, b1⟩
  have HC1 := AllCells.below HC b1
  have HB1 := Lib.hid (HB.out.drew.trans (b1.mono HB.out.size))
  clear b1 HC HB bX
  go_wp2_with fail
  refine And.intro (by first | exact fun _ => HC1 | exact HC1) ?_
  refine rmore [4, 5] 0 (by kernel_rfl) (fun _ _ _ _ _ h => h) HC1 ?_
  intro hne hu; try simp only [AllCells] at hu
  simp only [pick, pk]
  repeat (go_big_quiet_step (fail))
  refine wpQuiet_nil ?_; clear hne hu
  refine ⟨by kernel_rfl, ?_⟩
  clear HC1
  go_wp2_with fail
  go_ret
  exact ⟨_, rfl, HI.out, HB1.out⟩
set_option maxRecDepth 100000 in
set_option maxHeartbeats 4000000 in
theorem vright_k4g (w : World) (m ex : Int) (t : ByteArray) (b : Bool) (f : Int)(h : ¬ (1 ≤ f ∧ f ≤ 9)) : Calls Tryz.prog 56 #[.agg #[.int .i64 4, .int .i64 m, .int .i64 ex, .string t, .bool b, .int .i64 f]] w (RgV w ⟨4, m, ex, t, b, f⟩) := by
  have HB := Lib.hid ((Below.refl _ w).alloc (Nat.le_refl _) (.cells #[.int .i64 4, .int .i64 m, .int .i64 ex, .string t, .bool b, .int .i64 f] 33))
  have bX := Lib.hid (Blk.new w 33 #[.int .i64 4, .int .i64 m, .int .i64 ex, .string t, .bool b, .int .i64 f])
  have HI := Lib.hid (show veq ⟨4, m, ex, t, b, f⟩ ⟨4, 0, 0, ⟨#[]⟩, false, 9⟩ = true ↔ RightV ⟨4, m, ex, t, b, f⟩ by have := rightV_kind4 (m := m) (e := ex) (t := t) (b := b) (f := f); rw [badV_out h] at this; exact this)
  have HT := Lib.hid (vbado_c f h)
  clear h
  go_enter Tryz.func56, Tryz.ntmps56
  go_wp2_with fail
  generalize w.alloc (.cells #[.int .i64 4, .int .i64 m, .int .i64 ex, .string t, .bool b, .int .i64 f] 33) = V at *
  have HC : AllCells V.drew [(⟨w.heap.size, 0, none⟩, .int .i64 4), (⟨w.heap.size, 1, none⟩, .int .i64 m), (⟨w.heap.size, 2, none⟩, .int .i64 ex), (⟨w.heap.size, 3, none⟩, .string t), (⟨w.heap.size, 4, none⟩, .bool b), (⟨w.heap.size, 5, none⟩, .int .i64 f)] := ⟨bX.out.cell 0, bX.out.cell 1, bX.out.cell 2, bX.out.cell 3, bX.out.cell 4, bX.out.cell 5, trivial⟩
  refine rfree [0, 1, 2] 3 (by kernel_rfl) (fun _ _ _ _ _ h => h) HC ?_
  intro hne hu; try simp only [AllCells] at hu
  simp only [pick, pk]
  repeat (go_big_quiet_step (fail))
  refine wpQuiet_nil ?_; clear hne hu
  refine anyN_oneL 3 (by kernel_rfl) ?_; simp only [pk]
  go_wp2_with fail
  refine (HT.out _).mono ?_
  rintro e w1 ⟨rfl, b1⟩
  have HC1 := AllCells.below HC b1
  have HB1 := Lib.hid (HB.out.drew.trans (b1.mono HB.out.size))
  clear b1 HC HB bX
  go_wp2_with fail
  refine And.intro (by first | exact fun _ => HC1 | exact HC1) ?_
  refine rmore [4, 5] 0 (by kernel_rfl) (fun _ _ _ _ _ h => h) HC1 ?_
  intro hne hu; try simp only [AllCells] at hu
  simp only [pick, pk]
  repeat (go_big_quiet_step (fail))
  refine wpQuiet_nil ?_; clear hne hu
  refine ⟨by kernel_rfl, ?_⟩
  clear HC1
  go_wp2_with fail
  go_ret
  exact ⟨_, rfl, HI.out, HB1.out⟩
set_option maxRecDepth 100000 in
set_option maxHeartbeats 4000000 in
theorem vright_k0 (w : World) (m ex : Int) (t : ByteArray) (b : Bool) (f : Int) : Calls Tryz.prog 56 #[.agg #[.int .i64 0, .int .i64 m, .int .i64 ex, .string t, .bool b, .int .i64 f]] w (RgV w ⟨0, m, ex, t, b, f⟩) := by
  go_enter Tryz.func56, Tryz.ntmps56
  go_wp2_with fail
  go_ret
  exact ⟨_, rfl, rightV_kind0, (Below.refl _ w).alloc (Nat.le_refl _) _⟩
set_option maxRecDepth 100000 in
set_option maxHeartbeats 4000000 in
theorem vright_kk (w : World) (m ex : Int) (t : ByteArray) (b : Bool) (f : Int) (k : Int) (k0 : ¬k = 0) (k1 : ¬k = 1) (k2 : ¬k = 2) (k3 : ¬k = 3) (k4 : ¬k = 4) : Calls Tryz.prog 56 #[.agg #[.int .i64 k, .int .i64 m, .int .i64 ex, .string t, .bool b, .int .i64 f]] w (RgV w ⟨k, m, ex, t, b, f⟩) := by
  have HI := Lib.hid (rightV_other (m := m) (e := ex) (t := t) (b := b) (f := f) k0 k1 k2 k3 k4)
  go_enter Tryz.func56, Tryz.ntmps56
  go_wp2_with fail
  go_ret
  exact ⟨_, rfl, ⟨(fun h => by cases h), fun h => absurd h HI.out⟩, (Below.refl _ w).alloc (Nat.le_refl _) _⟩
end Go.Proofs.YtoicnghjjgkebaaGreatDoor
namespace Go.Proofs.YtoicnghjjgkebaaGreatDoor
open Go.RowKit
set_option maxRecDepth 100000 in
set_option maxHeartbeats 4000000 in
theorem vright_k1 (w : World) (m ex : Int) (t : ByteArray) (b : Bool) (f : Int) (h1 : -9223372036854775808 ≤ m) (h2 : m ≤ 9223372036854775807) (h3 : -9223372036854775808 ≤ ex) (h4 : ex ≤ 9223372036854775807) : Calls Tryz.prog 56 #[.agg #[.int .i64 1, .int .i64 m, .int .i64 ex, .string t, .bool b, .int .i64 f]] w (RgV w ⟨1, m, ex, t, b, f⟩) := by
  have HB := Lib.hid ((Below.refl _ w).alloc (Nat.le_refl _) (.cells #[.int .i64 1, .int .i64 m, .int .i64 ex, .string t, .bool b, .int .i64 f] 33))
  have bX := Lib.hid (Blk.new w 33 #[.int .i64 1, .int .i64 m, .int .i64 ex, .string t, .bool b, .int .i64 f])
  have HI := Lib.hid (rightV_kind1 (m := m) (e := ex) (t := t) (b := b) (f := f))
  have HN := Lib.hid (nright_c m ex h1 h2 h3 h4)
  clear h1 h2 h3 h4
  go_enter Tryz.func56, Tryz.ntmps56
  go_wp2_with fail
  generalize w.alloc (.cells #[.int .i64 1, .int .i64 m, .int .i64 ex, .string t, .bool b, .int .i64 f] 33) = V at *
  have HC : AllCells V.drew [(⟨w.heap.size, 0, none⟩, .int .i64 1), (⟨w.heap.size, 1, none⟩, .int .i64 m), (⟨w.heap.size, 2, none⟩, .int .i64 ex), (⟨w.heap.size, 3, none⟩, .string t), (⟨w.heap.size, 4, none⟩, .bool b), (⟨w.heap.size, 5, none⟩, .int .i64 f)] := ⟨bX.out.cell 0, bX.out.cell 1, bX.out.cell 2, bX.out.cell 3, bX.out.cell 4, bX.out.cell 5, trivial⟩
  refine rfree [0, 1] 9 (by kernel_rfl) (fun _ _ _ _ _ h => h) HC ?_
  intro hne hu; try simp only [AllCells] at hu
  simp only [pick, pk]
  repeat (go_big_quiet_step (fail))
  refine wpQuiet_nil ?_; clear hne hu
  refine anyN_oneL 2 (by kernel_rfl) ?_; simp only [pk]
  go_wp2_with fail
  refine (HN.out _).mono ?_
  rintro e w1 ⟨b1, rfl, r1, B1⟩
  have HC1 := AllCells.below HC B1
  have HB1 := Lib.hid (HB.out.drew.trans (B1.mono HB.out.size))
  have HR := Lib.hid r1
  clear B1 HC HB bX r1
  cases b1
  · go_wp2_with fail
    refine And.intro (by first | exact fun _ => HC1 | exact HC1) ?_
    refine anyN_oneL 3 (by kernel_rfl) ?_; simp only [pk]
    go_wp2_with fail
    refine And.intro (by first | exact fun _ => HC1 | exact HC1) ?_
    refine rmore [4, 5, 6] 4 (by kernel_rfl) (fun _ _ _ _ _ h => h) HC1 ?_
    intro hne hu; try simp only [AllCells] at hu
    simp only [pick, pk]
    repeat (go_big_quiet_step (fail))
    refine wpQuiet_nil ?_; clear hne hu
    refine anyN_oneL 7 (by kernel_rfl) ?_; simp only [pk]
    go_wp2_with fail
    refine And.intro (by first | exact fun _ => HC1 | exact HC1) ?_
    refine rmore [8, 9, 10] 0 (by kernel_rfl) (fun _ _ _ _ _ h => h) HC1 ?_
    intro hne hu; try simp only [AllCells] at hu
    simp only [pick, pk]
    repeat (go_big_quiet_step (fail))
    refine wpQuiet_nil ?_; clear hne hu
    refine ⟨by kernel_rfl, ?_⟩
    clear HC1
    go_wp2_with fail
    go_ret
    exact ⟨false, rfl, ⟨(fun h => by cases h), fun h => absurd (HR.out.2 (HI.out.2 h).1) (by simp)⟩, HB1.out⟩
  · go_wp2_with fail
    refine And.intro (by first | exact fun _ => HC1 | exact HC1) ?_
    refine anyN_oneL 3 (by kernel_rfl) ?_; simp only [pk]
    go_wp2_with fail
    refine And.intro (by first | exact fun _ => HC1 | exact HC1) ?_
    refine rmore [4, 5, 6] 4 (by kernel_rfl) (fun _ _ _ _ _ h => h) HC1 ?_
    intro hne hu; try simp only [AllCells] at hu
    simp only [pick, pk]
    repeat (go_big_quiet_step (fail))
    refine wpQuiet_nil ?_; clear hne hu
    refine anyN_oneL 7 (by kernel_rfl) ?_; simp only [pk]
    go_wp2_with fail
    refine (vof_c m ex _).mono ?_
    rintro e w2 ⟨rfl, B2⟩
    have HC2 := AllCells.below HC1 B2
    have HB2 := Lib.hid (HB1.out.trans (B2.mono HB1.out.size))
    clear B2 HC1 HB1
    go_wp2_with fail
    refine And.intro (by first | exact fun _ => HC2 | exact HC2) ?_
    refine rmore [8, 9, 10] 0 (by kernel_rfl) (fun _ _ _ _ _ h => h) HC2 ?_
    intro hne hu; try simp only [AllCells] at hu
    simp only [pick, pk]
    repeat (go_big_quiet_step (fail))
    refine wpQuiet_nil ?_; clear hne hu
    refine ⟨by kernel_rfl, ?_⟩
    clear HC2
    go_wp2_with fail
    go_ret
    exact ⟨_, rfl, ⟨fun h => HI.out.1 ⟨HR.out.1 (by first | trivial | rfl), h⟩, fun h => (HI.out.2 h).2⟩, HB2.out⟩
theorem vright_c (x : Val) (h1 : -9223372036854775808 ≤ x.mant) (h2 : x.mant ≤ 9223372036854775807) (h3 : -9223372036854775808 ≤ x.exp) (h4 : x.exp ≤ 9223372036854775807) (w : World) : Calls Tryz.prog 56 #[.agg x.cs.toArray] w (RgV w x) := by
  obtain ⟨k, m, ex, t, b, f⟩ := x
  by_cases k0 : k = 0
  · subst k0; exact vright_k0 w m ex t b f
  by_cases k1 : k = 1
  · subst k1; exact vright_k1 w m ex t b f h1 h2 h3 h4
  by_cases k2 : k = 2
  · subst k2
    by_cases ht : t.size ≤ 255
    · exact vright_k2 w m ex t b f ht
    · exact vright_k2g w m ex t b f ht
  by_cases k3 : k = 3
  · subst k3; exact vright_k3 w m ex t b f
  by_cases k4 : k = 4
  · subst k4
    by_cases hf : 1 ≤ f ∧ f ≤ 9
    · exact vright_k4 w m ex t b f hf
    · exact vright_k4g w m ex t b f hf
  exact vright_kk w m ex t b f k k0 k1 k2 k3 k4
end Go.Proofs.YtoicnghjjgkebaaGreatDoor
namespace Go.Proofs.YtoicnghjjgkebaaGreatDoor
open Go.RowKit
theorem tnil {t : ByteArray} : t = ⟨#[]⟩ ↔ t.toList = [] := by
  constructor
  · rintro rfl; rw [ByteArray.toList_eq]
  · intro h
    obtain ⟨d⟩ := t
    rw [ByteArray.toList_eq] at h
    congr 1
    exact Array.toList_eq_nil_iff.1 h
theorem rightV0 {m e : Int} {t : ByteArray} {b : Bool} {f : Int} : RightV ⟨0, m, e, t, b, f⟩ ↔ m = 0 ∧ e = 0 ∧ t.toList = [] ∧ b = false ∧ f = 0 := by
  rw [← rightV_kind0, veq_true, Val.mk.injEq, ← tnil]; simp
theorem rightV1 {m e : Int} {t : ByteArray} {b : Bool} {f : Int} : RightV ⟨1, m, e, t, b, f⟩ ↔ RightN m e ∧ t.toList = [] ∧ b = false ∧ f = 0 := by
  rw [← rightV_kind1, veq_true, Val.mk.injEq, ← tnil]; simp
theorem rightV2 {m e : Int} {t : ByteArray} {b : Bool} {f : Int} : RightV ⟨2, m, e, t, b, f⟩ ↔ m = 0 ∧ e = 0 ∧ t.size ≤ 255 ∧ b = false ∧ f = 0 := by
  rw [← rightV_kind2, veq_true]
  split
  · rename_i h; rw [Val.mk.injEq]; simp [h]
  · rename_i h; rw [badV_in (by omega), Val.mk.injEq]; simp [h]
theorem rightV3 {m e : Int} {t : ByteArray} {b : Bool} {f : Int} : RightV ⟨3, m, e, t, b, f⟩ ↔ m = 0 ∧ e = 0 ∧ t.toList = [] ∧ f = 0 := by
  rw [← rightV_kind3, veq_true, Val.mk.injEq, ← tnil]; simp
theorem rightV4 {m e : Int} {t : ByteArray} {b : Bool} {f : Int} : RightV ⟨4, m, e, t, b, f⟩ ↔ m = 0 ∧ e = 0 ∧ t.toList = [] ∧ b = false ∧ 1 ≤ f ∧ f ≤ 9 := by
  rw [← rightV_kind4, veq_true]
  by_cases h : 1 ≤ f ∧ f ≤ 9
  · rw [badV_in h, Val.mk.injEq, ← tnil]; simp [h]
  · rw [badV_out h, Val.mk.injEq]
    simp only [h, and_false, iff_false, not_and]
    intro _ _ _ _ _ hf
    subst hf
    exact h (by omega)
set_option maxRecDepth 100000 in
set_option maxHeartbeats 4000000 in
theorem rright_k0 (w : World) (m ex : Int) (t : ByteArray) (b : Bool) (f : Int) :
    Calls Tryz.prog 36 #[.agg #[.int .i64 0, .int .i64 m, .int .i64 ex, .string t, .bool b, .int .i64 f]] w (RgV w ⟨0, m, ex, t, b, f⟩) := by
  go_enter Tryz.func36, Tryz.ntmps36
  go_wp2_with fail
  all_goals go_ret
  all_goals refine ⟨_, rfl, ?_, (Below.refl _ w).alloc (Nat.le_refl _) _⟩
  all_goals rw [rightV0]
  all_goals (first | (simp [*]; done) | (simp_all; done) | (simp_all; omega))
set_option maxRecDepth 100000 in
set_option maxHeartbeats 4000000 in
theorem rright_k2 (w : World) (m ex : Int) (t : ByteArray) (b : Bool) (f : Int) :
    Calls Tryz.prog 36 #[.agg #[.int .i64 2, .int .i64 m, .int .i64 ex, .string t, .bool b, .int .i64 f]] w (RgV w ⟨2, m, ex, t, b, f⟩) := by
  go_enter Tryz.func36, Tryz.ntmps36
  go_wp2_with fail
  all_goals go_ret
  all_goals refine ⟨_, rfl, ?_, (Below.refl _ w).alloc (Nat.le_refl _) _⟩
  all_goals rw [rightV2]
  all_goals (first | (simp [*]; done) | (simp_all; done) | (simp_all; omega))
set_option maxRecDepth 100000 in
set_option maxHeartbeats 4000000 in
theorem rright_k3 (w : World) (m ex : Int) (t : ByteArray) (b : Bool) (f : Int) :
    Calls Tryz.prog 36 #[.agg #[.int .i64 3, .int .i64 m, .int .i64 ex, .string t, .bool b, .int .i64 f]] w (RgV w ⟨3, m, ex, t, b, f⟩) := by
  go_enter Tryz.func36, Tryz.ntmps36
  go_wp2_with fail
  all_goals go_ret
  all_goals refine ⟨_, rfl, ?_, (Below.refl _ w).alloc (Nat.le_refl _) _⟩
  all_goals rw [rightV3]
  all_goals (first | (simp [*]; done) | (simp_all; done) | (simp_all; omega))
set_option maxRecDepth 100000 in
set_option maxHeartbeats 4000000 in
theorem rright_k4 (w : World) (m ex : Int) (t : ByteArray) (b : Bool) (f : Int) :
    Calls Tryz.prog 36 #[.agg #[.int .i64 4, .int .i64 m, .int .i64 ex, .string t, .bool b, .int .i64 f]] w (RgV w ⟨4, m, ex, t, b, f⟩) := by
  go_enter Tryz.func36, Tryz.ntmps36
  go_wp2_with fail
  all_goals go_ret
  all_goals refine ⟨_, rfl, ?_, (Below.refl _ w).alloc (Nat.le_refl _) _⟩
  all_goals rw [rightV4]
  all_goals (first | (simp [*]; done) | (simp_all; done) | (simp_all; omega))
set_option maxRecDepth 100000 in
set_option maxHeartbeats 4000000 in
theorem rright_kk (w : World) (m ex : Int) (t : ByteArray) (b : Bool) (f : Int) (k : Int) (k0 : ¬k = 0) (k1 : ¬k = 1) (k2 : ¬k = 2) (k3 : ¬k = 3) (k4 : ¬k = 4) :
    Calls Tryz.prog 36 #[.agg #[.int .i64 k, .int .i64 m, .int .i64 ex, .string t, .bool b, .int .i64 f]] w (RgV w ⟨k, m, ex, t, b, f⟩) := by
  have HI := Lib.hid (rightV_other (m := m) (e := ex) (t := t) (b := b) (f := f) k0 k1 k2 k3 k4)
  go_enter Tryz.func36, Tryz.ntmps36
  go_wp2_with fail
  all_goals go_ret
  all_goals exact ⟨false, by first | rfl | simp_all, ⟨(fun h => by cases h), fun h => absurd h HI.out⟩, (Below.refl _ w).alloc (Nat.le_refl _) _⟩
set_option maxRecDepth 100000 in
set_option maxHeartbeats 4000000 in
theorem rright_k1 (w : World) (m ex : Int) (t : ByteArray) (b : Bool) (f : Int) (h1 : -9223372036854775808 ≤ m) (h2 : m ≤ 9223372036854775807) (h3 : -9223372036854775808 ≤ ex) (h4 : ex ≤ 9223372036854775807) :
    Calls Tryz.prog 36 #[.agg #[.int .i64 1, .int .i64 m, .int .i64 ex, .string t, .bool b, .int .i64 f]] w (RgV w ⟨1, m, ex, t, b, f⟩) := by
  have HR := Lib.hid (show ∀ m' ex' : Int, m' = m → ex' = ex → ∀ w', Calls Tryz.prog 59 #[.agg #[.int .i64 m', .int .i64 ex']] w' (RgtP w' m ex) from fun m' ex' e1 e2 w' => by subst e1; subst e2; exact rright_c _ _ h1 h2 h3 h4 w')
  clear h1 h2 h3 h4
  go_enter Tryz.func36, Tryz.ntmps36
  go_wp2_with fail
  all_goals first
    | (go_ret
       refine ⟨false, rfl, ?_, (Below.refl _ w).alloc (Nat.le_refl _) _⟩
       rw [rightV1]
       first | (simp [*]; done) | (simp_all; done))
    | (refine Calls.mono (HR.out _ _ (by omega) (by omega) _) ?_
       rintro e w1 ⟨b1, rfl, r1, B1⟩
       have HB1 := Lib.hid (show Below w.heap.size w w1 from ((Below.refl _ w).alloc (Nat.le_refl _) _).trans (B1.mono (by simp)))
       have HR1 := Lib.hid r1
       clear r1 B1
       go_wp2_with fail
       go_ret
       refine ⟨b1, rfl, ?_, HB1.out⟩
       rw [rightV1, HR1.out]
       first | (simp [*]; done) | (simp_all; done))
theorem rrightV_c (x : Val) (h1 : -9223372036854775808 ≤ x.mant) (h2 : x.mant ≤ 9223372036854775807) (h3 : -9223372036854775808 ≤ x.exp) (h4 : x.exp ≤ 9223372036854775807) (w : World) : Calls Tryz.prog 36 #[.agg x.cs.toArray] w (RgV w x) := by
  obtain ⟨k, m, ex, t, b, f⟩ := x
  by_cases k0 : k = 0
  · subst k0; exact rright_k0 w m ex t b f
  by_cases k1 : k = 1
  · subst k1; exact rright_k1 w m ex t b f h1 h2 h3 h4
  by_cases k2 : k = 2
  · subst k2; exact rright_k2 w m ex t b f
  by_cases k3 : k = 3
  · subst k3; exact rright_k3 w m ex t b f
  by_cases k4 : k = 4
  · subst k4; exact rright_k4 w m ex t b f
  exact rright_kk w m ex t b f k k0 k1 k2 k3 k4
end Go.Proofs.YtoicnghjjgkebaaGreatDoor
namespace Go.Proofs.YtoicnghjjgkebaaGreatDoor
open Go.RowKit
/-- Boxes one behind the other, from the old world's end on. -/
structure Bxs (w V : World) (L : List (TypeId × Array Value)) : Prop where
  box : ∀ i t cs, L[i]? = some (t, cs) → Blk V (w.heap.size + i) t cs
  below : Below w.heap.size w V
def allocAll (w : World) : List (TypeId × Array Value) → World
  | [] => w
  | (t, cs) :: L => allocAll (w.alloc (.cells cs t)) L
theorem allocAll_bxs : ∀ (L : List (TypeId × Array Value)) (w V : World) (K : List (TypeId × Array Value)), Bxs w V K → V.heap.size = w.heap.size + K.length → Bxs w (allocAll V L) (K ++ L)
  | [], w, V, K, h, _ => by simpa [allocAll] using h
  | (t, cs) :: L, w, V, K, h, e => by
    have h2 : Bxs w (V.alloc (.cells cs t)) (K ++ [(t, cs)]) := by
      refine ⟨fun i t' cs' hi => ?_, h.below.alloc (by omega) _⟩
      rcases Nat.lt_or_ge i K.length with hlt | hge
      · rw [List.getElem?_append_left hlt] at hi
        exact (h.box i t' cs' hi).alloc _
      · rw [List.getElem?_append_right hge] at hi
        have : i - K.length = 0 := by
          rcases Nat.eq_zero_or_pos (i - K.length) with h0 | h0
          · exact h0
          · rw [List.getElem?_eq_none (by simp; omega)] at hi; cases hi
        rw [this] at hi
        cases hi
        have e2 : w.heap.size + i = V.heap.size := by omega
        rw [e2]
        exact Blk.new V _ _
    have := allocAll_bxs L w _ _ h2 (by simp; omega)
    rw [List.append_assoc] at this
    exact this
theorem Bxs.start (w : World) (L : List (TypeId × Array Value)) : Bxs w (allocAll w L) L := allocAll_bxs L w w [] ⟨fun i t cs h => by simp at h, Below.refl _ _⟩ rfl
theorem Bxs.next {w V V' : World} {L : List (TypeId × Array Value)} (h : Bxs w V L) (k : Below V.heap.size V V') : Bxs w V' L :=
  ⟨fun i t cs hi => (h.box i t cs hi).kept (k.block _ (h.box i t cs hi).lt), h.below.trans (k.mono h.below.size)⟩
theorem Bxs.drew {w V : World} {L : List (TypeId × Array Value)} (h : Bxs w V L) : Bxs w V.drew L := h.next (Below.refl _ _).drew
theorem Bxs.ne {w V : World} {L : List (TypeId × Array Value)} (h : Bxs w V L) {i : Nat} {t : TypeId} {cs : Array Value} (hi : L[i]? = some (t, cs)) : w.heap.size + i < V.heap.size := (h.box i t cs hi).lt
theorem Bxs.grewBy {w W W' : World} {L : List (TypeId × Array Value)} (h : Bxs w W L) {r : Option Nat} (g : W.grownBy W' r) (hr : ∀ k, r = some k → w.heap.size + L.length ≤ k) : Bxs w W' L :=
  ⟨fun i t cs hi => (h.box i t cs hi).kept (g.block _ (h.box i t cs hi).lt (fun e => by have := hr _ e.symm; have := (List.getElem?_eq_some_iff.1 hi).1; omega)), below_grew h.below g (fun k hk => by have := hr k hk; omega)⟩
theorem add_at (g o j : Nat) : (⟨g, o, none⟩ : Addr).add j = ⟨g, o + j, none⟩ := by unfold Addr.add; split <;> simp_all
theorem flat_get {α : Type} {f : α → List Value} {k : Nat} (hf : ∀ z, (f z).length = k) : ∀ (l : List α) (i : Nat) (h : i < l.length) (j : Nat) (v : Value), (f l[i])[j]? = some v → (l.flatMap f)[i * k + j]? = some v
  | [], i, h, _, _, _ => by simp at h
  | z :: l, 0, _, j, v, hv => by
    have hj : j < (f z).length := (List.getElem?_eq_some_iff.1 hv).1
    rw [List.flatMap_cons, Nat.zero_mul, Nat.zero_add, List.getElem?_append_left hj]
    exact hv
  | z :: l, i + 1, h, j, v, hv => by
    have ih := flat_get hf l i (by simpa using h) j v hv
    rw [List.flatMap_cons, List.getElem?_append_right (by rw [hf, Nat.succ_mul]; omega), hf, show (i + 1) * k + j - k = i * k + j by rw [Nat.succ_mul]; omega]
    exact ih
theorem manyR_of_row {α : Type} {f : α → List Value} {k : Nat} (hf : ∀ z, (f z).length = k) (hk : 0 < k) {w : World} {base : Nat} {e : TypeId} {A : Option Addr} {n c : Nat} {l : List α} (h : w.ownsRow base e k (.slice A n c) n (l.flatMap f)) :
    l.length = n ∧ ManyR f k w A l := by
  have hn : l.length = n := by
    have := h.1
    rw [flat_len hf] at this
    exact Nat.eq_of_mul_eq_mul_right hk this
  refine ⟨hn, fun hl => ?_⟩
  rcases h.2 with ⟨hv, h0⟩ | ⟨g, cap, cur, hv, _, hg, _⟩
  · exact absurd (List.length_eq_zero_iff.1 (hn.trans h0)) hl
  · cases hv
    refine ⟨g, 0, rfl, (Array.getElem?_eq_some_iff.1 hg).1, fun i hi j v hv => ?_⟩
    have c1 := h.cells (g := g) rfl _ _ (flat_get hf l i hi j v hv)
    rw [add_at] at c1
    rw [Nat.add_assoc]
    exact c1
structure Cor where
  row : Id
  col : Id
  fr : Bool
  fc : Bool
def Cor.zero : Cor := ⟨(0, 0), (0, 0), false, false⟩
/-- A node's own fields. -/
structure Nf where
  k : Int
  v : Val
  s : ByteArray
  a : Cor
  b : Cor
  r : Int
inductive Nd where
  | mk (f : Nf) (l : List Nd)
def Nd.f : Nd → Nf | .mk f _ => f
def Nd.l : Nd → List Nd | .mk _ l => l
def Nf.cs (f : Nf) (v : Value) : List Value := [.int .i64 f.k, .int .i64 f.v.kind, .int .i64 f.v.mant, .int .i64 f.v.exp, .string f.v.text, .bool f.v.truth, .int .i64 f.v.fault, .string f.s,
  .int .i64 f.a.row.1, .int .i64 f.a.row.2, .int .i64 f.a.col.1, .int .i64 f.a.col.2, .bool f.a.fr, .bool f.a.fc, .int .i64 f.b.row.1, .int .i64 f.b.row.2, .int .i64 f.b.col.1, .int .i64 f.b.col.2, .bool f.b.fr, .bool f.b.fc, .int .i64 f.r, v]
def Nf.zero : Nf := ⟨0, zeroV, ⟨#[]⟩, .zero, .zero, 0⟩
instance : Inhabited Nd := ⟨.mk .zero []⟩
mutual
def Nd.size : Nd → Nat | .mk _ l => 1 + sizeL l
def sizeL : List Nd → Nat | [] => 0 | x :: r => x.size + sizeL r
end
mutual
def Nd.pre : Nd → List Nd | .mk f l => .mk f l :: preL l
def preL : List Nd → List Nd | [] => [] | x :: r => x.pre ++ preL r
end
/-- Nodes that can be read, as deep as that; their blocks are such as S says. -/
def KidsR (S : Nat → Prop) (w : World) : Nat → Option Addr → List Nd → Prop
  | 0, _, l => l = []
  | d + 1, A, l => l ≠ [] → ∃ b off, A = some ⟨b, off, none⟩ ∧ S b ∧ b < w.heap.size ∧ l.length ≤ maxLen ∧ ∀ i (h : i < l.length), ∃ A' c, (∀ j v, (l[i].f.cs (.slice A' l[i].l.length (l[i].l.length + c)))[j]? = some v → w.cell? ⟨b, off + i * 22 + j, none⟩ = some v) ∧ KidsR S w d A' l[i].l
theorem KidsR.mono {S T : Nat → Prop} {w w' : World} (hS : ∀ b, b < w.heap.size → S b → T b ∧ w'.heap[b]? = w.heap[b]?) (hs : w.heap.size ≤ w'.heap.size) : ∀ {d : Nat} {A : Option Addr} {l : List Nd}, KidsR S w d A l → KidsR T w' d A l
  | 0, _, _, h => h
  | d + 1, A, l, h => fun hl => by
    obtain ⟨b, off, hA, hb, hlt, hm, hc⟩ := h hl
    obtain ⟨h1, h2⟩ := hS b hlt hb
    refine ⟨b, off, hA, h1, Nat.lt_of_lt_of_le hlt hs, hm, fun i hi => ?_⟩
    obtain ⟨A', c, h3, h4⟩ := hc i hi
    exact ⟨A', c, fun j v hj => (World.cell?_of_block (a := ⟨b, off + i * 22 + j, none⟩) h2).trans (h3 j v hj), h4.mono hS hs⟩
theorem KidsR.next {S : Nat → Prop} {w w' : World} {d : Nat} {A : Option Addr} {l : List Nd} (h : KidsR S w d A l) (hb : Below w.heap.size w w') : KidsR S w' d A l :=
  h.mono (fun b hlt hS => ⟨hS, hb.block b hlt⟩) hb.size
theorem KidsR.nil (S : Nat → Prop) (w : World) (d : Nat) (A : Option Addr) : KidsR S w d A [] := by
  cases d with
  | zero => rfl
  | succ d => exact fun h => absurd rfl h
theorem KidsR.deeper {S : Nat → Prop} {w : World} : ∀ {d e : Nat} {A : Option Addr} {l : List Nd}, KidsR S w d A l → d ≤ e → KidsR S w e A l
  | 0, e, A, l, h, _ => by rw [show l = [] from h]; exact .nil S w e A
  | d + 1, 0, _, _, _, h => absurd h (by omega)
  | d + 1, e + 1, A, l, h, he => fun hl => by
    obtain ⟨b, off, hA, hb, hlt, hm, hc⟩ := h hl
    refine ⟨b, off, hA, hb, hlt, hm, fun i hi => ?_⟩
    obtain ⟨A', c, h3, h4⟩ := hc i hi
    exact ⟨A', c, h3, h4.deeper (by omega)⟩
/-- The slice of a node's nodes is a right one. -/
theorem KidsR.le {S : Nat → Prop} {w : World} {d : Nat} {A : Option Addr} {l : List Nd} (h : KidsR S w d A l) : l.length ≤ maxLen := by
  cases d with
  | zero => rw [show l = [] from h]; exact Nat.zero_le _
  | succ d =>
    by_cases hl : l = []
    · rw [hl]; exact Nat.zero_le _
    · obtain ⟨_, _, _, _, _, hm, _⟩ := h hl; exact hm
abbrev KidsT (w : World) (d : Nat) (A : Option Addr) (l : List Nd) : Prop := KidsR (fun _ => True) w d A l
theorem nf_one (f : Nf) (v : Value) (hv : v.oneCell' = true) : ∀ u ∈ f.cs v, u.oneCell' = true := by
  intro u hu
  simp only [Nf.cs, List.mem_cons, List.not_mem_nil, or_false] at hu
  rcases hu with rfl | rfl | rfl | rfl | rfl | rfl | rfl | rfl | rfl | rfl | rfl | rfl | rfl | rfl | rfl | rfl | rfl | rfl | rfl | rfl | rfl | rfl <;> first | rfl | exact hv
theorem node_row : RowT 40 22 := ⟨⟨_, Tryz.underlying40, rfl⟩, by kernel_rfl⟩
/-- A node as it lies in memory. -/
structure NC where
  f : Nf
  v : Value
def NC.cs (u : NC) : List Value := u.f.cs u.v
def NCof (d : Nat) (w : World) (u : NC) (x : Nd) : Prop := u.f = x.f ∧ ∃ A c, u.v = .slice A x.l.length (x.l.length + c) ∧ KidsT w d A x.l
theorem NCof.deeper {d e : Nat} {w : World} {u : NC} {x : Nd} (h : NCof d w u x) (k : d ≤ e) : NCof e w u x := by
  obtain ⟨h1, A, c, h2, h3⟩ := h
  exact ⟨h1, A, c, h2, h3.deeper k⟩
/-- Nodes in memory and the trees that they are. -/
def NCs (d : Nat) (w : World) (us : List NC) (xs : List Nd) : Prop := us.length = xs.length ∧ ∀ i (h : i < us.length) (h' : i < xs.length), NCof d w us[i] xs[i]
theorem NCs.app {d : Nat} {w : World} {us vs : List NC} {xs ys : List Nd} (h : NCs d w us xs) (k : NCs d w vs ys) : NCs d w (us ++ vs) (xs ++ ys) := by
  refine ⟨by rw [List.length_append, List.length_append, h.1, k.1], fun i h1 h2 => ?_⟩
  by_cases hi : i < us.length
  · rw [List.getElem_append_left hi, List.getElem_append_left (by rw [← h.1]; exact hi)]
    exact h.2 i hi _
  · rw [List.getElem_append_right (by omega), List.getElem_append_right (by rw [← h.1]; omega)]
    have hl := h.1
    have := k.2 (i - us.length) (by rw [List.length_append] at h1; omega) (by rw [List.length_append] at h2; omega)
    simp only [hl] at this ⊢
    exact this
theorem NCs.deeper {d e : Nat} {w : World} {us : List NC} {xs : List Nd} (h : NCs d w us xs) (k : d ≤ e) : NCs e w us xs := ⟨h.1, fun i h1 h2 => (h.2 i h1 h2).deeper k⟩
/-- What Nodes returns: nodes in memory that are the trees xs, whose parts lie as they did at the world w0. -/
def RetN (d : Nat) (xs : List Nd) (w0 w : World) (e : Ending) (w' : World) : Prop :=
  ∃ us a c, e = .returned (.slice (some a) us.length c) ∧ ManyR NC.cs 22 w' (some a) us ∧ NCs d w0 us xs ∧ w.heap.size ≤ a.block ∧ Below w.heap.size w w'
def NodesH (d : Nat) : Prop := ∀ (f : Nf) (l : List Nd) (A : Option Addr) (c : Nat) (w0 w : World), KidsR (fun _ => True) w0 d A l → Below w0.heap.size w0 w → (Nd.mk f l).size ≤ 1048576 →
  Calls Tryz.prog 17 #[.agg (f.cs (.slice A l.length (l.length + c))).toArray] w (RetN d (Nd.mk f l).pre w0 w)
theorem Tryz.infoN : (Tryz.prog.info? 40).map (fun i => (i.zero, i.size, i.bytes)) = some (some (.agg #[.int .i64 0, .int .i64 0, .int .i64 0, .int .i64 0, .string ⟨#[]⟩, .bool false, .int .i64 0, .string ⟨#[]⟩, .int .i64 0, .int .i64 0, .int .i64 0, .int .i64 0, .bool false, .bool false, .int .i64 0, .int .i64 0, .int .i64 0, .int .i64 0, .bool false, .bool false, .int .i64 0, .slice none 0 0]), 22, 192) := by kernel_rfl
/-- A slice of one node. -/
theorem bsN {ops : Array Oper} {rest : List Oper} {o : Oper} {a : Act} {w : World} {Q : Exit → Act → World → Prop} (f : Nf) (A : Option Addr) (n c : Nat) (hg : o.guard = none) (x : Operand) (ho : o.op = .buildSlice 38 1 #[(0, x)]) (hx : a.eval x = .agg (f.cs (.slice A n c)).toArray)
    (h : wpList Tryz.prog ops Q rest (a.put o.dst (.slice (some ⟨w.heap.size, 0, none⟩) 1 1)) (w.alloc (.cells (f.cs (.slice A n c)).toArray 40))) : wpList Tryz.prog ops Q (o :: rest) a w := by
  obtain ⟨i0, hi, hi0, hi1, hi2⟩ := info_parts Tryz.infoN
  refine wpList_buildSlice hg 38 40 1 _ ho _ i0 _ Tryz.underlying38 hi hi0 (by rw [hi1]; omega) (by rw [hi1]; omega) ?_ h
  rw [hi1]
  simp only [List.map_toArray, List.map_cons, List.map_nil, hx]
  kernel_rfl
mutual
theorem Nd.pre_len : ∀ x : Nd, x.pre.length = x.size
  | .mk f l => by rw [Nd.pre, Nd.size, List.length_cons, preL_len l]; omega
theorem preL_len : ∀ l : List Nd, (preL l).length = sizeL l
  | [] => rfl
  | x :: r => by rw [preL, sizeL, List.length_append, Nd.pre_len x, preL_len r]
end
theorem preL_snoc (x : Nd) : ∀ l : List Nd, preL (l ++ [x]) = preL l ++ x.pre
  | [] => by simp [preL]
  | y :: r => by rw [List.cons_append, preL, preL, preL_snoc x r, List.append_assoc]
theorem sizeL_take : ∀ (l : List Nd) (i : Nat), sizeL (l.take i) ≤ sizeL l
  | [], i => by rw [List.take_nil]; exact Nat.le_refl _
  | x :: r, 0 => by rw [List.take_zero, sizeL]; exact Nat.zero_le _
  | x :: r, i + 1 => by rw [List.take_succ_cons, sizeL, sizeL]; have := sizeL_take r i; omega
theorem size_at {l : List Nd} {i : Nat} (h : i < l.length) : sizeL (l.take i) + l[i].size ≤ sizeL l := by
  have h1 := sizeL_take l (i + 1)
  rw [List.take_succ_eq_append_getElem h] at h1
  have : ∀ (m : List Nd) (x : Nd), sizeL (m ++ [x]) = sizeL m + x.size := by
    intro m x
    induction m with
    | nil => simp [sizeL]
    | cons y r ih => rw [List.cons_append, sizeL, sizeL, ih, Nat.add_assoc]
  rw [this] at h1
  exact h1
theorem flat_of {α : Type} {f : α → List Value} {k : Nat} (hf : ∀ z, (f z).length = k) : ∀ (l : List α) (j : Nat) (u : Value), (l.flatMap f)[j]? = some u → ∃ i r, ∃ h : i < l.length, j = i * k + r ∧ (f l[i])[r]? = some u
  | [], j, u, h => by simp at h
  | x :: us, j, u, h => by
    rw [List.flatMap_cons] at h
    by_cases hj : j < k
    · rw [List.getElem?_append_left (by rw [hf]; exact hj)] at h
      exact ⟨0, j, by simp, by omega, h⟩
    · rw [List.getElem?_append_right (by rw [hf]; omega), hf] at h
      obtain ⟨i, r, hi, hjr, hu⟩ := flat_of hf us _ _ h
      exact ⟨i + 1, r, by simpa using hi, by rw [Nat.succ_mul]; omega, hu⟩
theorem manyR_src {α : Type} {f : α → List Value} {k : Nat} (hf : ∀ z, (f z).length = k) {w : World} {A : Option Addr} {us : List α} (h : ManyR f k w A us) : ∀ b, A = some b → ∀ j u, (us.flatMap f)[j]? = some u → w.cell? (b.add j) = some u := fun b hb j u hj => by
  obtain ⟨i, r, hi, rfl, hu⟩ := flat_of hf us j u hj
  obtain ⟨g, off, hA, -, hc⟩ := h (fun e => by rw [e] at hi; simp at hi)
  rw [hb] at hA
  cases hA
  rw [add_at, ← Nat.add_assoc]
  exact hc i hi r u hu
theorem ownsRow_one (w : World) (cs : List Value) (e : TypeId) (k : Nat) (hl : cs.length = k) : (w.alloc (.cells cs.toArray e)).ownsRow w.heap.size e k (.slice (some ⟨w.heap.size, 0, none⟩) 1 1) 1 cs :=
  ⟨by rw [hl, Nat.one_mul], .inr ⟨w.heap.size, 1, cs.toArray, rfl, Nat.le_refl _, by show (w.heap.push _)[w.heap.size]? = _; simp, Nat.le_refl _, by simp [maxLen], by rw [List.size_toArray, hl, Nat.one_mul], by rw [Nat.one_mul, ← hl, List.take_length]⟩⟩
/-- Boxes, and a row of nodes behind them. -/
structure BxN (w W : World) (L : List (TypeId × Array Value)) (v : Value) (us : List NC) : Prop where
  bx : Bxs w W L
  row : W.ownsRow (w.heap.size + L.length) 40 22 v us.length (us.flatMap NC.cs)
theorem BxN.next {w W W' : World} {L : List (TypeId × Array Value)} {v : Value} {us : List NC} (h : BxN w W L v us) (b : Below W.heap.size W W') : BxN w W' L v us :=
  ⟨h.bx.next b, ownsRow_kept h.row fun g _ hg => b.block g hg⟩
theorem nc_one (us : List NC) (h : ∀ u ∈ us, u.v.oneCell' = true) : ∀ x ∈ us.flatMap NC.cs, x.oneCell' = true := fun x hx => by
  obtain ⟨u, hu, hx⟩ := List.mem_flatMap.1 hx
  exact nf_one u.f u.v (h u hu) x hx
theorem NC.one {d : Nat} {w : World} {us : List NC} {xs : List Nd} (h : NCs d w us xs) : ∀ u ∈ us, u.v.oneCell' = true := fun u hu => by
  obtain ⟨i, hi, rfl⟩ := List.getElem_of_mem hu
  obtain ⟨-, A, c, h2, -⟩ := h.2 i hi (by rw [← h.1]; exact hi)
  rw [h2]; rfl
/-- The append of a run of nodes to such a row. -/
theorem app_nodes {w W : World} {L : List (TypeId × Array Value)} {ops : Array Oper} {rest : List Oper} {o : Oper} {a : Act} {Q : Exit → Act → World → Prop} (hgd : o.guard = none) (s x : Operand)
    (ho : o.op = .call { callee := .builtin .append, args := #[s, x], argTypes := #[38, 38] }) {v : Value} {us vs : List NC} {A : Addr} {c : Nat} (hs : a.eval s = v) (hx : a.eval x = .slice (some A) vs.length c)
    (B : BxN w W L v us) (hM : ManyR NC.cs 22 W (some A) vs) (h1 : ∀ u ∈ vs, u.v.oneCell' = true) (hm : us.length + vs.length ≤ 1048576)
    (h : ∀ v' w', Hid (BxN w w' L v' (us ++ vs)) → wpList Tryz.prog ops Q rest (a.put o.dst v') w') : wpList Tryz.prog ops Q (o :: rest) a W := by
  obtain ⟨i0, hi, hz0, hz1, hz2⟩ := info_parts Tryz.infoN
  have hb0 : w.heap.size + L.length ≤ W.heap.size := by
    rcases Nat.eq_zero_or_pos L.length with h0 | h0
    · have := B.bx.below.size; omega
    · have := B.bx.ne (i := L.length - 1) (t := (L[L.length - 1]).1) (cs := (L[L.length - 1]).2) (by rw [List.getElem?_eq_getElem (by omega)])
      omega
  have hf : ∀ z : NC, (NC.cs z).length = 22 := fun z => rfl
  have hlen : (vs.flatMap NC.cs).length = vs.length * 22 := flat_len hf vs
  refine wpList_append_src W hgd s x _ ho (w.heap.size + L.length) _ i0 _ 22 192 Tryz.underlying38 hi hz0 hz1 hz2 rfl (by omega) v us.length (us.flatMap NC.cs) hs B.row (some A) vs.length c (vs.flatMap NC.cs) hx (fun e => by cases e) (by rw [hlen]) (fun b hb j u hj => manyR_src hf hM b hb j u hj) (nc_one vs h1) (by simp only [maxLen]; omega)
    (by omega) hb0 (fun v' w' h2 h3 h5 => h v' w' (Lib.hid ⟨B.bx.grewBy h3 (fun k hk => ownsRow_base B.row k hk), ?_⟩))
  rw [List.length_append, List.flatMap_append]; exact h2
set_option maxRecDepth 100000 in
set_option maxHeartbeats 4000000 in
theorem rnodes_step (d : Nat) (ih : ∀ e, e < d → NodesH e) : NodesH d := by
  intro f l A c w0 w hK hb hS
  have HW := Lib.hid hb
  have HI := Lib.hid ih
  have HK := Lib.hid hK
  have HS := Lib.hid hS
  have hm := KidsR.le hK
  simp only [maxLen] at hm
  have HP := Lib.hid (show (Nd.mk f l).pre = Nd.mk f l :: preL l by rw [Nd.pre])
  clear ih hK hb hS
  obtain ⟨n, hn⟩ : ∃ n, l.length = n := ⟨_, rfl⟩
  have HC : Hid ((⟨f, .slice A l.length (l.length + c)⟩ : NC).cs = f.cs (.slice A n (n + c))) := Lib.hid (by rw [hn]; rfl)
  rw [hn] at hm ⊢
  have HN := Lib.hid hn
  clear hn
  generalize hD : (Nd.mk f l).pre = D at *
  have B0 := Lib.hid (Bxs.start w [(40, (f.cs (.slice A n (n + c))).toArray)])
  simp only [allocAll] at B0
  have hl0 : Hid ((f.cs (.slice A n (n + c))).length = 22) := Lib.hid rfl
  have ld := Lib.hid (Seg.of (show Blk _ w.heap.size _ _ from B0.out.box 0 _ _ rfl)).lies
  go_enter Tryz.func17, Tryz.ntmps17
  go_wp2_with (first | refine ld_step node_row rfl _ rfl _ _ rfl hl0.out ld.out ?_ | refine bsN f A n (n + c) rfl _ rfl rfl ?_)
  have D0 : BxN w ((w.alloc (.cells (f.cs (.slice A n (n + c))).toArray 40)).alloc (.cells (f.cs (.slice A n (n + c))).toArray 40)) [(40, (f.cs (.slice A n (n + c))).toArray)] (.slice (some ⟨w.heap.size + 1, 0, none⟩) 1 1) [⟨f, .slice A n (n + c)⟩] := by
    have hs : (w.alloc (.cells (f.cs (.slice A n (n + c))).toArray 40)).heap.size = w.heap.size + 1 := by simp
    have := ownsRow_one (w.alloc (.cells (f.cs (.slice A n (n + c))).toArray 40)) (f.cs (.slice A n (n + c))) 40 22 rfl
    rw [hs] at this
    exact ⟨B0.out.next ((Below.refl _ _).alloc (Nat.le_refl _) _), by simpa [NC.cs] using this⟩
  have HD := Lib.hid D0
  have HU := Lib.hid (show NCs d w0 [⟨f, .slice A n (n + c)⟩] (Nd.mk f l :: preL (l.take 0)) from ⟨by rw [List.take_zero]; rfl, fun i h1 h2 => by
    have : i = 0 := by simpa using h1
    subst this
    exact ⟨rfl, A, c, by show Value.slice A n (n + c) = .slice A l.length (l.length + c); rw [HN.out], HK.out⟩⟩)
  clear D0
  generalize (w.alloc _).alloc _ = V at *
  have HG : Hid ((f.cs (.slice A n (n + c))).toArray[21]? = some (.slice A n (n + c))) := Lib.hid rfl
  generalize (⟨f, .slice A n (n + c)⟩ : NC) = u0 at *
  generalize (f.cs (.slice A n (n + c))).toArray = cs at *
  go_loopw [3, 4] (fun v iv wx => ∃ (i : Nat) (us : List NC), i ≤ n ∧ iv = .int .i64 i ∧ Hid (BxN w wx [(40, cs)] v us) ∧ Hid (NCs d w0 us (Nd.mk f l :: preL (l.take i)))) (fun _ iv _ => n - (intOf iv).toNat)
  case atStart => exact ⟨0, _, Nat.zero_le _, rfl, HD, HU⟩
  clear HU HD
  obtain ⟨i, us, hi, rfl, hB, hU⟩ := hrel
  have c21 := ((show Blk _ w.heap.size _ _ from hB.out.bx.box 0 _ _ rfl).cell 21).trans HG.out
  by_cases hlt : i < n
  · have hlt2 : (i : Int) < (n : Int) := by omega
    have h0 : (0 : Int) ≤ (i : Int) := by omega
    have hne : l ≠ [] := fun e => by have := HN.out; rw [e] at this; simp at this; omega
    have hil : i < l.length := by rw [HN.out]; exact hlt
    obtain ⟨e, rfl⟩ : ∃ e, d = e + 1 := by
      cases d with
      | zero => exact absurd HK.out hne
      | succ e => exact ⟨e, rfl⟩
    have hbw : Below w0.heap.size w0 wr := HW.out.trans (hB.out.bx.below.mono HW.out.size)
    obtain ⟨g, off, rfl, -, hg, -, hc⟩ := HK.out hne
    obtain ⟨A', c', h1, h2⟩ := hc i hil
    have HT := Lib.hid (List.take_succ_eq_append_getElem hil)
    have ld := Lib.hid (show wr.rangeAt g (off + i * 22) (l[i].f.cs (.slice A' l[i].l.length (l[i].l.length + c'))) from fun j u hj => (hbw.cell hg).trans (h1 j u hj))
    have hsz := size_at hil
    have hs0 := HS.out
    rw [Nd.size] at hs0
    have HX := Lib.hid (HI.out e (by omega) l[i].f l[i].l A' c' w0 wr h2 hbw (by
      cases hx : l[i] with
      | mk xf xl => rw [hx] at hsz; simp only [Nd.f, Nd.l]; omega))
    have HL9 := Lib.hid (show us.length + l[i].pre.length ≤ 1048576 by
      have h3 := hU.out.1
      rw [List.length_cons, preL_len] at h3
      rw [Nd.pre_len]; omega)
    clear hc h1 h2 hne hsz hs0 hbw HI
    generalize l[i] = x at *
    clear hil
    obtain ⟨xf, xl⟩ := x
    simp only [Nd.f, Nd.l] at HX ld
    have HS2 := Lib.hid (show preL (l.take (i + 1)) = preL (l.take i) ++ (Nd.mk xf xl).pre by rw [HT.out, preL_snoc])
    generalize (Nd.mk xf xl).pre = y at *
    generalize hxc : xf.cs (.slice A' xl.length (xl.length + c')) = xc at *
    have hl1 : Hid (xc.length = 22) := Lib.hid (by rw [← hxc]; rfl)
    clear hxc HT
    go_wp2_with (refine ld_step node_row rfl _ rfl _ _ rfl hl1.out ld.out ?_)
    refine HX.out.mono ?_
    rintro _ w1 ⟨vs, A9, c9, rfl, m1, n1, -, b1⟩
    have B1 := Lib.hid (hB.out.next b1)
    have M1 := Lib.hid m1
    have N1 := Lib.hid n1
    have hl2 := n1.1
    rw [← hl2] at HL9
    clear b1 HX hB ld c21 m1 n1 hl2
    go_wp2_with (refine app_nodes rfl _ _ rfl rfl rfl B1.out M1.out (NC.one N1.out) HL9.out (fun v' w' HB9 => ?_))
    exact ⟨⟨i + 1, _, hlt, by go_num, HB9, Lib.hid (by rw [HS2.out, ← List.cons_append]; exact hU.out.app (N1.out.deeper (Nat.le_succ _)))⟩, by simp [intOf]; omega⟩
  · have hlt2 : ¬ (i : Int) < (n : Int) := by omega
    have HL := Lib.hid (show l.take i = l by rw [List.take_of_length_le (by rw [HN.out]; omega)])
    rw [HL.out, ← HP.out] at hU
    obtain ⟨A9, c9, rfl, -⟩ := ownsRow_shape hB.out.row
    go_wp2_with fail
    go_ret
    have hm9 := (manyR_of_row (f := NC.cs) (k := 22) (fun z => rfl) (by omega) hB.out.row).2
    have hne : us ≠ [] := fun e => by have := hU.out.1; rw [e, HP.out] at this; simp at this
    obtain ⟨b, off, rfl, -⟩ := hm9 hne
    exact ⟨us, _, _, rfl, hm9, hU.out, by have := ownsRow_base hB.out.row b rfl; exact Nat.le_trans (Nat.le_add_right _ _) this, hB.out.bx.below⟩
theorem rnodes_c (d : Nat) : NodesH d := Nat.strongRecOn d fun d ih => rnodes_step d ih
end Go.Proofs.YtoicnghjjgkebaaGreatDoor
