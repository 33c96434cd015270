/-
  The engine awake: a value made sound; what Each asks of one cell. No condition.
-/
import Derived.Test.YtdmbppgogdkpdaaGreatDoorD3
namespace Go.Proofs.YtdmbppgogdkpdaaGreatDoor
open Go.RowKit Go.Maps Go.Sort Go.Shelf
set_option maxRecDepth 100000 in
set_option maxHeartbeats 4000000 in
theorem sound83 (b : Bool) (w : World) : Calls Tryz.prog 83 #[.agg #[.int .i64 3, .int .i64 0, .int .i64 0, .string ⟨#[]⟩, .bool b, .int .i64 0]] w fun e w' => e = .returned (.agg #[.int .i64 3, .int .i64 0, .int .i64 0, .string ⟨#[]⟩, .bool b, .int .i64 0]) ∧ Below w.heap.size w w' := by
  have HB := Lib.hid (((Below.refl w.heap.size w).alloc (Nat.le_refl _) (.cells (cB b) 41)).alloc (by simp) (.cells c0B 41))
  have HL := Lib.hid (new_lies (w.alloc (.cells (cB b) 41)) (.cells c0B 41))
  have HK := Lib.hid (hbk (new_lies w (.cells (cB b) 41)) ((Below.refl _ _).alloc (Nat.le_refl _) (.cells c0B 41)))
  go_enter Tryz.func83, Tryz.ntmps83
  go_wp2_with fail
  refine Calls.mono (right126 b _) ?_
  rintro _ w3 ⟨rfl, q⟩
  have HB2 := Lib.hid (HB.out.trans (q.mono HB.out.size))
  have HL2 := Lib.hid (show w3.heap[w.heap.size + 1]? = some (.cells c0B 41) by have := hbk HL.out q; simpa using this)
  have HK2 := Lib.hid (hbk HK.out q)
  clear q HB HL HK
  have k0 := cell_at HK2.out (o := 0) (v := .int .i64 3) rfl
  have k1 := cell_at HK2.out (o := 1) (v := .int .i64 0) rfl
  have k2 := cell_at HK2.out (o := 2) (v := .int .i64 0) rfl
  have k3 := cell_at HK2.out (o := 3) (v := .string ⟨#[]⟩) rfl
  have k4 := cell_at HK2.out (o := 4) (v := .bool b) rfl
  have k5 := cell_at HK2.out (o := 5) (v := .int .i64 0) rfl
  have HN := Lib.hid (setRow_heap w3 (w.heap.size + 1) _ (cB b) _ _ HL2.out)
  have HB4 := Lib.hid (below_setRow HB2.out (Nat.le_succ _) (cB b))
  go_wp2_with (refine wpList_store_row rfl 41 _ _ rfl (w.heap.size + 1) (cB b) rfl rfl 41 c0B HL2.out (by kernel_rfl) rfl (by simp [Value.oneCell']) ?_)
  have r0 := cell_at HN.out (o := 0) (v := .int .i64 3) rfl
  have r1 := cell_at HN.out (o := 1) (v := .int .i64 0) rfl
  have r2 := cell_at HN.out (o := 2) (v := .int .i64 0) rfl
  have r3 := cell_at HN.out (o := 3) (v := .string ⟨#[]⟩) rfl
  have r4 := cell_at HN.out (o := 4) (v := .bool b) rfl
  have r5 := cell_at HN.out (o := 5) (v := .int .i64 0) rfl
  exact bodyPost_ret (v := vB b) (by simp [results, Tryz.results83, go_sem, r0, r1, r2, r3, r4, r5]) rfl ⟨rfl, HB4.out⟩
theorem eqnil (W : World) : Sem.run Tryz.prog (binOp BinOp.eql 83 (.func (.func 192) #[] #[]) Value.nilFunc) W = .ok (.bool false) W := by kernel_rfl
set_option maxRecDepth 100000 in
set_option maxHeartbeats 4000000 in
theorem each320 (b : Bool) (fb sb g c : Nat) (w : World) (h1 : w.heap[fb]? = some (.cells #[.func (.func 192) #[] #[]] 83)) (h2 : w.heap[sb]? = some (.cells #[.int .i64 1, .int .i64 1, .slice (some ⟨g, 0, none⟩) 1 c] 28)) (h3 : w.heap[g]? = some (.cells (cB b) 41)) :
    Calls Tryz.prog 320 #[.int .i64 0, .int .i64 0, .pointer (some ⟨fb, 0, none⟩), .pointer (some ⟨sb, 0, none⟩)] w fun e w' => e = .returned (.agg #[.int .i64 3, .int .i64 0, .int .i64 0, .string ⟨#[]⟩, .bool (!b), .int .i64 0]) ∧ Below w.heap.size w w' := by
  have HB := Lib.hid ((Below.refl w.heap.size w).alloc (Nat.le_refl _) (.cells c0B 41))
  have HL := Lib.hid (new_lies w (.cells c0B 41))
  have H1 := Lib.hid (hbk h1 HB.out)
  have H2 := Lib.hid (hbk h2 HB.out)
  have H3 := Lib.hid (hbk h3 HB.out)
  have G1 := Lib.hid h1
  have G2 := Lib.hid h2
  have G3 := Lib.hid h3
  clear h1 h2 h3
  have f0 := cell_at H1.out (o := 0) (v := .func (.func 192) #[] #[]) rfl
  go_enter Tryz.func320, Tryz.ntmps320
  go_wp2_with fail
  refine upon_run (eqnil _) ?_
  go_wp2_with fail
  clear f0
  generalize w.alloc (.cells #[.int .i64 0, .int .i64 0, .int .i64 0, .string ⟨#[]⟩, .bool false, .int .i64 0] 41) = V at *
  have HC : AllCells V.drew [(⟨fb, 0, none⟩, .func (.func 192) #[] #[]), (⟨sb, 1, none⟩, .int .i64 1), (⟨sb, 2, none⟩, .slice (some ⟨g, 0, none⟩) 1 c), (⟨g, 0, none⟩, .int .i64 3), (⟨g, 1, none⟩, .int .i64 0), (⟨g, 2, none⟩, .int .i64 0), (⟨g, 3, none⟩, .string ⟨#[]⟩), (⟨g, 4, none⟩, .bool b), (⟨g, 5, none⟩, .int .i64 0)] :=
    ⟨cell_at H1.out rfl, cell_at H2.out rfl, cell_at H2.out rfl, cell_at H3.out rfl, cell_at H3.out rfl, cell_at H3.out rfl, cell_at H3.out rfl, cell_at H3.out rfl, cell_at H3.out rfl, trivial⟩
  clear H1 H2 H3
  refine region_free _ [0, 1, 2, 3, 4, 5, 6, 7, 8, 9, 10] 3 (by kernel_rfl) (by kernel_rfl) (by kernel_rfl) (by kernel_rfl) (by kernel_rfl) (fun _ _ _ _ _ h => h) HC ?_
  intro hne hu
  simp only [AllCells] at hu
  simp only [pick, List.take_succ_cons, List.take_zero, List.drop_succ_cons, List.drop_zero, List.cons_append, List.nil_append]
  repeat (go_big_quiet_step (fail))
  refine wpQuiet_nil ?_
  clear hne hu
  refine anyN_oneL 11 (by kernel_rfl) ?_
  simp only [List.take_succ_cons, List.take_zero, List.drop_succ_cons, List.drop_zero]
  go_wp2_with fail
  refine Calls.mono (not192 b _) ?_
  rintro _ w3 ⟨rfl, q⟩
  have HC3 := AllCells.below HC q
  have HB3 := Lib.hid (HB.out.drew.trans (q.mono HB.out.size))
  have HL3 := Lib.hid (hbk (show V.drew.heap[w.heap.size]? = _ from HL.out) q)
  clear q HC HB HL
  go_wp2_with fail
  refine And.intro (fun _ => HC3) ?_
  refine anyN_oneL 12 (by kernel_rfl) ?_
  simp only [List.take_succ_cons, List.take_zero, List.drop_succ_cons, List.drop_zero]
  go_wp2_with fail
  refine Calls.mono (sound83 (!b) _) ?_
  rintro _ w4 ⟨rfl, q⟩
  have HC4 := AllCells.below HC3 q
  have HB4 := Lib.hid (HB3.out.trans (q.mono HB3.out.size))
  have HL4 := Lib.hid (hbk HL3.out q)
  clear q HC3 HB3 HL3
  go_wp2_with fail
  refine And.intro (fun _ => HC4) ?_
  refine anyN_oneL 13 (by kernel_rfl) ?_
  simp only [List.take_succ_cons, List.take_zero, List.drop_succ_cons, List.drop_zero]
  have HN := Lib.hid (setRow_heap w4 w.heap.size _ (cB (!b)) _ _ HL4.out)
  have HB5 := Lib.hid (below_setRow HB4.out (Nat.le_refl _) (cB (!b)))
  go_wp2_with (refine wpList_store_row rfl 41 _ _ rfl w.heap.size (cB (!b)) rfl rfl 41 c0B HL4.out (by kernel_rfl) rfl (by simp [Value.oneCell']) ?_)
  have J1 := hbk G1.out HB5.out
  have J2 := hbk G2.out HB5.out
  have J3 := hbk G3.out HB5.out
  have HC6 : AllCells (w4.setRow w.heap.size (cB (!b))) [(⟨fb, 0, none⟩, .func (.func 192) #[] #[]), (⟨sb, 1, none⟩, .int .i64 1), (⟨sb, 2, none⟩, .slice (some ⟨g, 0, none⟩) 1 c), (⟨g, 0, none⟩, .int .i64 3), (⟨g, 1, none⟩, .int .i64 0), (⟨g, 2, none⟩, .int .i64 0), (⟨g, 3, none⟩, .string ⟨#[]⟩), (⟨g, 4, none⟩, .bool b), (⟨g, 5, none⟩, .int .i64 0)] :=
    ⟨cell_at J1 rfl, cell_at J2 rfl, cell_at J2 rfl, cell_at J3 rfl, cell_at J3 rfl, cell_at J3 rfl, cell_at J3 rfl, cell_at J3 rfl, cell_at J3 rfl, trivial⟩
  clear J1 J2 J3 HC4
  refine And.intro (fun _ => HC6) ?_
  refine ⟨by kernel_rfl, ?_⟩
  clear HC6
  go_wp2_with fail
  have r0 := cell_at HN.out (o := 0) (v := .int .i64 3) rfl
  have r1 := cell_at HN.out (o := 1) (v := .int .i64 0) rfl
  have r2 := cell_at HN.out (o := 2) (v := .int .i64 0) rfl
  have r3 := cell_at HN.out (o := 3) (v := .string ⟨#[]⟩) rfl
  have r4 := cell_at HN.out (o := 4) (v := .bool (!b)) rfl
  have r5 := cell_at HN.out (o := 5) (v := .int .i64 0) rfl
  exact bodyPost_ret (v := vB (!b)) (by simp [results, Tryz.results320, go_sem, r0, r1, r2, r3, r4, r5]) rfl ⟨rfl, HB5.out⟩
end Go.Proofs.YtdmbppgogdkpdaaGreatDoor
