/-
  The engine awake: TRUE is a right value; its shape is right. No condition.
-/
import Derived.Test.YtdmbppgogdkpdaaGreatDoorC5
namespace Go.Proofs.YtdmbppgogdkpdaaGreatDoor
open Go.RowKit Go.Maps Go.Sort Go.Shelf
abbrev cB (b : Bool) : Array Value := #[.int .i64 3, .int .i64 0, .int .i64 0, .string ⟨#[]⟩, .bool b, .int .i64 0]
abbrev vB (b : Bool) : Value := .agg (cB b)
set_option maxRecDepth 100000 in
set_option maxHeartbeats 1000000 in
theorem truth123 (b : Bool) (w : World) : Calls Tryz.prog 123 #[.bool b] w fun e w' => e = .returned (.agg #[.int .i64 3, .int .i64 0, .int .i64 0, .string ⟨#[]⟩, .bool b, .int .i64 0]) ∧ Below w.heap.size w w' := by
  go_enter Tryz.func123, Tryz.ntmps123
  go_wp2_with fail
  exact bodyPost_ret (v := vB b) (by simp [results, Tryz.results123, go_sem]) rfl ⟨rfl, (Below.refl _ _).alloc (Nat.le_refl _) _⟩
set_option maxRecDepth 100000 in
set_option maxHeartbeats 4000000 in
theorem right126 (b : Bool) (w : World) : Calls Tryz.prog 126 #[.agg #[.int .i64 3, .int .i64 0, .int .i64 0, .string ⟨#[]⟩, .bool b, .int .i64 0]] w fun e w' => e = .returned (.bool true) ∧ Below w.heap.size w w' := by
  have HB := Lib.hid ((Below.refl w.heap.size w).alloc (Nat.le_refl _) (.cells (cB b) 41))
  have HL := Lib.hid (new_lies w (.cells (cB b) 41))
  go_enter Tryz.func126, Tryz.ntmps126
  go_wp2_with fail
  generalize w.alloc (.cells #[.int .i64 3, .int .i64 0, .int .i64 0, .string ⟨#[]⟩, .bool b, .int .i64 0] 41) = V at *
  have HC : AllCells V.drew [(⟨w.heap.size, 0, none⟩, .int .i64 3), (⟨w.heap.size, 1, none⟩, .int .i64 0), (⟨w.heap.size, 2, none⟩, .int .i64 0), (⟨w.heap.size, 3, none⟩, .string ⟨#[]⟩), (⟨w.heap.size, 4, none⟩, .bool b), (⟨w.heap.size, 5, none⟩, .int .i64 0)] :=
    ⟨cell_at HL.out rfl, cell_at HL.out rfl, cell_at HL.out rfl, cell_at HL.out rfl, cell_at HL.out rfl, cell_at HL.out rfl, trivial⟩
  clear HL
  refine region_free _ [0, 1, 2] 3 (by kernel_rfl) (by kernel_rfl) (by kernel_rfl) (by kernel_rfl) (by kernel_rfl) (fun _ _ _ _ _ h => h) HC ?_
  intro hne hu
  simp only [AllCells] at hu
  simp only [pick, List.take_succ_cons, List.take_zero, List.drop_succ_cons, List.drop_zero, List.cons_append, List.nil_append]
  repeat (go_big_quiet_step (fail))
  refine wpQuiet_nil ?_
  clear hne hu
  refine anyN_oneL 3 (by kernel_rfl) ?_
  simp only [List.take_succ_cons, List.take_zero, List.drop_succ_cons, List.drop_zero]
  go_wp2_with fail
  refine Calls.mono (truth123 b _) ?_
  rintro _ w3 ⟨rfl, b3⟩
  have HC3 := AllCells.below HC b3
  have HB3 := Lib.hid (HB.out.drew.trans (b3.mono HB.out.size))
  clear b3 HC HB
  go_wp2_with fail
  refine And.intro (fun _ => HC3) ?_
  refine anyN_more [4, 5] 0 (by kernel_rfl) (by kernel_rfl) (by kernel_rfl) (by kernel_rfl) (fun _ _ _ _ _ h => h) HC3 ?_
  intro hne hu
  simp only [AllCells] at hu
  simp only [pick, List.take_succ_cons, List.take_zero, List.drop_succ_cons, List.drop_zero, List.cons_append, List.nil_append]
  repeat (go_big_quiet_step (fail))
  refine wpQuiet_nil ?_
  clear hne hu
  refine ⟨by kernel_rfl, ?_⟩
  clear HC3
  go_wp2_with fail
  go_ret
  exact ⟨by simp, HB3.out⟩
theorem fits125 (w : World) : Calls Tryz.prog 125 #[.int .i64 1, .int .i64 1] w fun e w' => e = .returned (.bool true) ∧ w' = w := by
  go_enter Tryz.func125, Tryz.ntmps125
  go_wp2_with fail
  go_ret
  exact ⟨by rfl, rfl⟩
end Go.Proofs.YtdmbppgogdkpdaaGreatDoor
