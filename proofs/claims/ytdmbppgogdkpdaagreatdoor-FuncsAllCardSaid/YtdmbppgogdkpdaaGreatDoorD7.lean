/-
  The engine awake: the closure that NOT's entry holds. No condition.
-/
import Derived.Test.YtdmbppgogdkpdaaGreatDoorD6
namespace Go.Proofs.YtdmbppgogdkpdaaGreatDoor
open Go.RowKit Go.Maps Go.Sort Go.Shelf
set_option maxRecDepth 100000 in
set_option maxHeartbeats 4000000 in
theorem each279 (b : Bool) (s sc a g c : Nat) (w : World) (h1 : w.heap[s]? = some (.cells #[.int .i64 1, .int .i64 1, .slice (some ⟨g, 0, none⟩) 1 c] 28)) (h2 : w.heap[a]? = some (.cells #[.func (.func 192) #[] #[]] 83)) (h3 : w.heap[g]? = some (.cells (cB b) 41)) :
    Calls Tryz.prog 279 #[.slice (some ⟨s, 0, none⟩) 1 sc, .pointer (some ⟨a, 0, none⟩)] w fun e w' => ∃ (v : Value), e = .returned (.agg #[.int .i64 1, .int .i64 1, v]) ∧ w'.ownsRow w.heap.size 41 6 v 1 (cB (!b)).toList ∧ Below w.heap.size w w' := by
  have G1 := Lib.hid h1
  have G2 := Lib.hid h2
  have G3 := Lib.hid h3
  clear h1 h2 h3
  have HB := Lib.hid ((Below.refl w.heap.size w).alloc (Nat.le_refl _) (.cells #[.int .i64 0, .int .i64 0, .slice none 0 0] 28))
  have HL := Lib.hid (new_lies w (.cells #[.int .i64 0, .int .i64 0, .slice none 0 0] 28))
  have HZ := Lib.hid (show w.heap.size ≤ (w.alloc (.cells #[.int .i64 0, .int .i64 0, .slice none 0 0] 28)).heap.size by simp)
  have HV := Lib.hid (show w.heap.size < (w.alloc (.cells #[.int .i64 0, .int .i64 0, .slice none 0 0] 28)).heap.size by simp)
  go_enter Tryz.func279, Tryz.ntmps279
  go_wp2_with fail
  generalize w.alloc (.cells #[.int .i64 0, .int .i64 0, .slice none 0 0] 28) = V at *
  have HC : AllCells V.drew [(⟨s, 0, none⟩, .int .i64 1), (⟨s, 1, none⟩, .int .i64 1), (⟨s, 2, none⟩, .slice (some ⟨g, 0, none⟩) 1 c), (⟨a, 0, none⟩, .func (.func 192) #[] #[])] :=
    ⟨cell_at (hbk G1.out HB.out.drew) rfl, cell_at (hbk G1.out HB.out.drew) rfl, cell_at (hbk G1.out HB.out.drew) rfl, cell_at (hbk G2.out HB.out.drew) rfl, trivial⟩
  refine region_free _ [0, 1, 2, 3] 2 (by kernel_rfl) (by kernel_rfl) (by kernel_rfl) (by kernel_rfl) (by kernel_rfl) (fun _ _ _ _ _ h => h) HC ?_
  intro hne hu
  simp only [AllCells] at hu
  simp only [pick, List.take_succ_cons, List.take_zero, List.drop_succ_cons, List.drop_zero, List.cons_append, List.nil_append]
  repeat (go_big_quiet_step (fail))
  refine wpQuiet_nil ?_
  clear hne hu
  refine anyN_oneL 4 (by kernel_rfl) ?_
  simp only [List.take_succ_cons, List.take_zero, List.drop_succ_cons, List.drop_zero]
  go_wp2_with fail
  refine Calls.mono (each259 b g c V.drew (hbk G3.out HB.out.drew)) ?_
  rintro _ w3 ⟨v, rfl, hrow, q⟩
  obtain ⟨A, c2, rfl⟩ := row_form hrow
  have HC3 := AllCells.below HC q
  have HB3 := Lib.hid (HB.out.drew.trans (q.mono HB.out.size))
  have HL3 := Lib.hid (hbk (show V.drew.heap[w.heap.size]? = _ from HL.out) q)
  have HW := Lib.hid (row_le (row_setRow (r := w.heap.size) (cs := #[.int .i64 1, .int .i64 1, .slice A 1 c2]) hrow HV.out) HZ.out)
  clear q hrow HC HB HL
  go_wp2_with fail
  refine And.intro (fun _ => HC3) ?_
  clear HC3
  have HN := Lib.hid (setRow_heap w3 w.heap.size _ #[.int .i64 1, .int .i64 1, .slice A 1 c2] _ _ HL3.out)
  have HB5 := Lib.hid (below_setRow HB3.out (Nat.le_refl _) #[.int .i64 1, .int .i64 1, .slice A 1 c2])
  have HC6 : AllCells (w3.setRow w.heap.size #[.int .i64 1, .int .i64 1, .slice A 1 c2]) [(⟨s, 0, none⟩, .int .i64 1), (⟨s, 1, none⟩, .int .i64 1), (⟨s, 2, none⟩, .slice (some ⟨g, 0, none⟩) 1 c), (⟨a, 0, none⟩, .func (.func 192) #[] #[])] :=
    ⟨cell_at (hbk G1.out HB5.out) rfl, cell_at (hbk G1.out HB5.out) rfl, cell_at (hbk G1.out HB5.out) rfl, cell_at (hbk G2.out HB5.out) rfl, trivial⟩
  refine anyN_oneL 5 (by kernel_rfl) ?_
  simp only [List.take_succ_cons, List.take_zero, List.drop_succ_cons, List.drop_zero]
  go_wp2_with (refine wpList_store_row rfl 28 _ _ rfl w.heap.size #[.int .i64 1, .int .i64 1, .slice A 1 c2] rfl rfl 28 #[.int .i64 0, .int .i64 0, .slice none 0 0] HL3.out (by kernel_rfl) rfl (by simp [Value.oneCell']) ?_)
  refine And.intro (fun _ => HC6) ?_
  refine ⟨by kernel_rfl, ?_⟩
  clear HC6
  go_wp2_with fail
  have r0 := cell_at HN.out (o := 0) (v := .int .i64 1) rfl
  have r1 := cell_at HN.out (o := 1) (v := .int .i64 1) rfl
  have r2 := cell_at HN.out (o := 2) (v := .slice A 1 c2) rfl
  exact bodyPost_ret (v := .agg #[.int .i64 1, .int .i64 1, .slice A 1 c2]) (by simp [results, Tryz.results279, go_sem, r0, r1, r2]) rfl ⟨_, rfl, HW.out, HB5.out⟩
end Go.Proofs.YtdmbppgogdkpdaaGreatDoor
