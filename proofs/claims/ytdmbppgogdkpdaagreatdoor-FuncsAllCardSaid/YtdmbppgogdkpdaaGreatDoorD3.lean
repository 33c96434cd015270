/-
  The engine awake: NOT of TRUE. No condition.
-/
import Derived.Test.YtdmbppgogdkpdaaGreatDoorD2
import Derived.Laws.Tables
import Derived.Laws.CopyOwn
namespace Go.Proofs.YtdmbppgogdkpdaaGreatDoor
open Go.RowKit Go.Maps Go.Sort Go.Shelf
abbrev c0B : Array Value := #[.int .i64 0, .int .i64 0, .int .i64 0, .string ⟨#[]⟩, .bool false, .int .i64 0]
set_option maxRecDepth 100000 in
set_option maxHeartbeats 4000000 in
theorem toTruth277 (b : Bool) (w : World) : Calls Tryz.prog 277 #[.agg #[.int .i64 3, .int .i64 0, .int .i64 0, .string ⟨#[]⟩, .bool b, .int .i64 0]] w fun e w' => e = .returned (.tuple #[.bool b, .int .i64 0]) ∧ Below w.heap.size w w' := by
  have HB := Lib.hid ((Below.refl w.heap.size w).alloc (Nat.le_refl _) (.cells (cB b) 41))
  go_enter Tryz.func277, Tryz.ntmps277
  go_wp2_with fail
  go_ret2
  exact ⟨rfl, HB.out⟩
set_option maxRecDepth 100000 in
set_option maxHeartbeats 4000000 in
theorem not192 (b : Bool) (w : World) : Calls Tryz.prog 192 #[.agg #[.int .i64 3, .int .i64 0, .int .i64 0, .string ⟨#[]⟩, .bool b, .int .i64 0]] w fun e w' => e = .returned (.agg #[.int .i64 3, .int .i64 0, .int .i64 0, .string ⟨#[]⟩, .bool (!b), .int .i64 0]) ∧ Below w.heap.size w w' := by
  have HB := Lib.hid (((Below.refl w.heap.size w).alloc (Nat.le_refl _) (.cells (cB b) 41)).alloc (by simp) (.cells c0B 41))
  have HL := Lib.hid (new_lies (w.alloc (.cells (cB b) 41)) (.cells c0B 41))
  go_enter Tryz.func192, Tryz.ntmps192
  go_wp2_with fail
  refine Calls.mono (toTruth277 b _) ?_
  rintro _ w3 ⟨rfl, q⟩
  have HB2 := Lib.hid (HB.out.trans (q.mono HB.out.size))
  have HL2 := Lib.hid (show w3.heap[w.heap.size + 1]? = some (.cells c0B 41) by have := hbk HL.out q; simpa using this)
  clear q HB HL
  go_wp2_with fail
  refine Calls.mono (truth123 (!b) _) ?_
  rintro _ w4 ⟨rfl, q⟩
  have HB3 := Lib.hid (HB2.out.trans (q.mono HB2.out.size))
  have HL3 := Lib.hid (hbk HL2.out q)
  clear q HB2 HL2
  have HN := Lib.hid (setRow_heap w4 (w.heap.size + 1) _ (cB (!b)) _ _ HL3.out)
  have HB4 := Lib.hid (below_setRow HB3.out (Nat.le_succ _) (cB (!b)))
  go_wp2_with (refine wpList_store_row rfl 41 _ _ rfl (w.heap.size + 1) (cB (!b)) rfl rfl 41 c0B HL3.out (by kernel_rfl) rfl (by simp [Value.oneCell']) ?_)
  have r0 := cell_at HN.out (o := 0) (v := .int .i64 3) rfl
  have r1 := cell_at HN.out (o := 1) (v := .int .i64 0) rfl
  have r2 := cell_at HN.out (o := 2) (v := .int .i64 0) rfl
  have r3 := cell_at HN.out (o := 3) (v := .string ⟨#[]⟩) rfl
  have r4 := cell_at HN.out (o := 4) (v := .bool (!b)) rfl
  have r5 := cell_at HN.out (o := 5) (v := .int .i64 0) rfl
  exact bodyPost_ret (v := vB (!b)) (by simp [results, Tryz.results192, go_sem, r0, r1, r2, r3, r4, r5]) rfl ⟨rfl, HB4.out⟩
end Go.Proofs.YtdmbppgogdkpdaaGreatDoor
