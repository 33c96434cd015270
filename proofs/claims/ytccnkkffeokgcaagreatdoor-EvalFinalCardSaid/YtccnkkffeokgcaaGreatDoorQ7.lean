/-
  value.Right: its contract. Condition: the ints fit 64 bits.
-/
import Derived.Test.YtccnkkffeokgcaaGreatDoorQ6
namespace Go.Proofs.YtccnkkffeokgcaaGreatDoor
open Go.RowKit
set_option maxRecDepth 100000 in
set_option maxHeartbeats 4000000 in
theorem vright_k1 (w : World) (m ex : Int) (t : ByteArray) (b : Bool) (f : Int) (h1 : -9223372036854775808 ≤ m) (h2 : m ≤ 9223372036854775807) (h3 : -9223372036854775808 ≤ ex) (h4 : ex ≤ 9223372036854775807) : Calls Tryz.prog 74 #[.agg #[.int .i64 1, .int .i64 m, .int .i64 ex, .string t, .bool b, .int .i64 f]] w (RgV w ⟨1, m, ex, t, b, f⟩) := by
  have HB := Lib.hid ((Below.refl _ w).alloc (Nat.le_refl _) (.cells #[.int .i64 1, .int .i64 m, .int .i64 ex, .string t, .bool b, .int .i64 f] 41))
  have bX := Lib.hid (Blk.new w 41 #[.int .i64 1, .int .i64 m, .int .i64 ex, .string t, .bool b, .int .i64 f])
  have HI := Lib.hid (rightV_kind1 (m := m) (e := ex) (t := t) (b := b) (f := f))
  have HN := Lib.hid (nright_c m ex h1 h2 h3 h4)
  clear h1 h2 h3 h4
  go_enter Tryz.func74, Tryz.ntmps74
  go_wp2_with fail
  generalize w.alloc (.cells #[.int .i64 1, .int .i64 m, .int .i64 ex, .string t, .bool b, .int .i64 f] 41) = V at *
  have HC : AllCells V.drew [(⟨w.heap.size, 0, none⟩, .int .i64 1), (⟨w.heap.size, 1, none⟩, .int .i64 m), (⟨w.heap.size, 2, none⟩, .int .i64 ex), (⟨w.heap.size, 3, none⟩, .string t), (⟨w.heap.size, 4, none⟩, .bool b), (⟨w.heap.size, 5, none⟩, .int .i64 f)] := ⟨bX.out.cell 0, bX.out.cell 1, bX.out.cell 2, bX.out.cell 3, bX.out.cell 4, bX.out.cell 5, trivial⟩
  refine region_free _ [0, 1] 9 (by kernel_rfl) (by kernel_rfl) (by kernel_rfl) (by kernel_rfl) (by kernel_rfl) (fun _ _ _ _ _ h => h) HC ?_
  intro hne hu
  simp only [AllCells] at hu
  simp only [pick, List.take_succ_cons, List.take_zero, List.drop_succ_cons, List.drop_zero, List.cons_append, List.nil_append]
  repeat (go_big_quiet_step (fail))
  refine wpQuiet_nil ?_
  clear hne hu
  refine anyN_oneL 2 (by kernel_rfl) ?_
  simp only [List.take_succ_cons, List.take_zero, List.drop_succ_cons, List.drop_zero]
  go_wp2_with fail
  refine (HN.out _).mono ?_
  rintro e w1 ⟨b1, rfl, r1, B1⟩
  have HC1 := AllCells.below HC B1
  have HB1 := Lib.hid (HB.out.drew.trans (B1.mono HB.out.size))
  have HR := Lib.hid r1
  clear B1 HC HB bX r1
  cases b1
  · go_wp2_with fail
    refine And.intro (fun _ => HC1) ?_
    refine anyN_oneL 3 (by kernel_rfl) ?_
    simp only [List.take_succ_cons, List.take_zero, List.drop_succ_cons, List.drop_zero]
    go_wp2_with fail
    refine And.intro (fun _ => HC1) ?_
    refine anyN_more [4, 5, 6] 4 (by kernel_rfl) (by kernel_rfl) (by kernel_rfl) (by kernel_rfl) (fun _ _ _ _ _ h => h) HC1 ?_
    intro hne hu
    simp only [AllCells] at hu
    simp only [pick, List.take_succ_cons, List.take_zero, List.drop_succ_cons, List.drop_zero, List.cons_append, List.nil_append]
    repeat (go_big_quiet_step (fail))
    refine wpQuiet_nil ?_
    clear hne hu
    refine anyN_oneL 7 (by kernel_rfl) ?_
    simp only [List.take_succ_cons, List.take_zero, List.drop_succ_cons, List.drop_zero]
    go_wp2_with fail
    refine And.intro (fun _ => HC1) ?_
    refine anyN_more [8, 9, 10] 0 (by kernel_rfl) (by kernel_rfl) (by kernel_rfl) (by kernel_rfl) (fun _ _ _ _ _ h => h) HC1 ?_
    intro hne hu
    simp only [AllCells] at hu
    simp only [pick, List.take_succ_cons, List.take_zero, List.drop_succ_cons, List.drop_zero, List.cons_append, List.nil_append]
    repeat (go_big_quiet_step (fail))
    refine wpQuiet_nil ?_
    clear hne hu
    refine ⟨by kernel_rfl, ?_⟩
    clear HC1
    go_wp2_with fail
    go_ret
    exact ⟨false, rfl, ⟨(fun h => by cases h), fun h => absurd (HR.out.2 (HI.out.2 h).1) (by simp)⟩, HB1.out⟩
  · go_wp2_with fail
    refine And.intro (fun _ => HC1) ?_
    refine anyN_oneL 3 (by kernel_rfl) ?_
    simp only [List.take_succ_cons, List.take_zero, List.drop_succ_cons, List.drop_zero]
    go_wp2_with fail
    refine And.intro (fun _ => HC1) ?_
    refine anyN_more [4, 5, 6] 4 (by kernel_rfl) (by kernel_rfl) (by kernel_rfl) (by kernel_rfl) (fun _ _ _ _ _ h => h) HC1 ?_
    intro hne hu
    simp only [AllCells] at hu
    simp only [pick, List.take_succ_cons, List.take_zero, List.drop_succ_cons, List.drop_zero, List.cons_append, List.nil_append]
    repeat (go_big_quiet_step (fail))
    refine wpQuiet_nil ?_
    clear hne hu
    refine anyN_oneL 7 (by kernel_rfl) ?_
    simp only [List.take_succ_cons, List.take_zero, List.drop_succ_cons, List.drop_zero]
    go_wp2_with fail
    refine (vof_c m ex _).mono ?_
    rintro e w2 ⟨rfl, B2⟩
    have HC2 := AllCells.below HC1 B2
    have HB2 := Lib.hid (HB1.out.trans (B2.mono HB1.out.size))
    clear B2 HC1 HB1
    go_wp2_with fail
    refine And.intro (fun _ => HC2) ?_
    refine anyN_more [8, 9, 10] 0 (by kernel_rfl) (by kernel_rfl) (by kernel_rfl) (by kernel_rfl) (fun _ _ _ _ _ h => h) HC2 ?_
    intro hne hu
    simp only [AllCells] at hu
    simp only [pick, List.take_succ_cons, List.take_zero, List.drop_succ_cons, List.drop_zero, List.cons_append, List.nil_append]
    repeat (go_big_quiet_step (fail))
    refine wpQuiet_nil ?_
    clear hne hu
    refine ⟨by kernel_rfl, ?_⟩
    clear HC2
    go_wp2_with fail
    go_ret
    exact ⟨_, rfl, ⟨fun h => HI.out.1 ⟨HR.out.1 (by first | trivial | rfl), h⟩, fun h => (HI.out.2 h).2⟩, HB2.out⟩
theorem vright_c (x : Val) (h1 : -9223372036854775808 ≤ x.mant) (h2 : x.mant ≤ 9223372036854775807) (h3 : -9223372036854775808 ≤ x.exp) (h4 : x.exp ≤ 9223372036854775807) (w : World) : Calls Tryz.prog 74 #[.agg x.cs.toArray] w (RgV w x) := by
  obtain ⟨k, m, ex, t, b, f⟩ := x
  by_cases k0 : k = 0
  · subst k0; exact vright_k0 w m ex t b f
  by_cases k1 : k = 1
  · subst k1; exact vright_k1 w m ex t b f h1 h2 h3 h4
  by_cases k2 : k = 2
  · subst k2
    by_cases ht : t.size ≤ 255
    · exact vright_k2 w m ex t b f ht
    · exact vright_k2g w m ex t b f ht
  by_cases k3 : k = 3
  · subst k3; exact vright_k3 w m ex t b f
  by_cases k4 : k = 4
  · subst k4
    by_cases hf : 1 ≤ f ∧ f ≤ 9
    · exact vright_k4 w m ex t b f hf
    · exact vright_k4g w m ex t b f hf
  exact vright_kk w m ex t b f k k0 k1 k2 k3 k4
end Go.Proofs.YtccnkkffeokgcaaGreatDoor
