/-
  The engine awake: Each of a shape of one cell, asked with 'not'. No condition.
-/
import Derived.Test.YtdmbppgogdkpdaaGreatDoorD5
namespace Go.Proofs.YtdmbppgogdkpdaaGreatDoor
open Go.RowKit Go.Maps Go.Sort Go.Shelf
theorem row_le {w : World} {B B' e k : Nat} {v : Value} {n : Nat} {xs : List Value} (h : w.ownsRow B e k v n xs) (hb : B' ≤ B) : w.ownsRow B' e k v n xs := by
  refine ⟨h.1, ?_⟩
  rcases h.2 with hn | ⟨g, cap, cur, hv, h1, rest⟩
  · exact .inl hn
  · exact .inr ⟨g, cap, cur, hv, by omega, rest⟩
set_option maxRecDepth 100000 in
set_option maxHeartbeats 4000000 in
theorem each259 (b : Bool) (g c : Nat) (w : World) (h : w.heap[g]? = some (.cells (cB b) 41)) :
    Calls Tryz.prog 259 #[.agg #[.int .i64 1, .int .i64 1, .slice (some ⟨g, 0, none⟩) 1 c], .func (.func 192) #[] #[]] w fun e w' => ∃ (v : Value), e = .returned (.agg #[.int .i64 1, .int .i64 1, v]) ∧ w'.ownsRow w.heap.size 41 6 v 1 (cB (!b)).toList ∧ Below w.heap.size w w' := by
  have L0 := new_lies w (.cells #[.int .i64 1, .int .i64 1, .slice (some ⟨g, 0, none⟩) 1 c] 28)
  have L1 := new_lies (w.alloc (.cells #[.int .i64 1, .int .i64 1, .slice (some ⟨g, 0, none⟩) 1 c] 28)) (.cells #[.func (.func 192) #[] #[]] 83)
  have L2 := new_lies ((w.alloc (.cells #[.int .i64 1, .int .i64 1, .slice (some ⟨g, 0, none⟩) 1 c] 28)).alloc (.cells #[.func (.func 192) #[] #[]] 83)) (.cells #[.int .i64 0, .int .i64 0, .slice none 0 0] 28)
  have HB := Lib.hid ((((Below.refl w.heap.size w).alloc (Nat.le_refl _) (.cells #[.int .i64 1, .int .i64 1, .slice (some ⟨g, 0, none⟩) 1 c] 28)).alloc (by simp) (.cells #[.func (.func 192) #[] #[]] 83)).alloc (by simp; omega) (.cells #[.int .i64 0, .int .i64 0, .slice none 0 0] 28))
  have HG := Lib.hid (hbk h HB.out)
  have HS := Lib.hid (hbk (hbk L0 ((Below.refl _ _).alloc (Nat.le_refl _) (.cells #[.func (.func 192) #[] #[]] 83))) ((Below.refl _ _).alloc (Nat.le_refl _) (.cells #[.int .i64 0, .int .i64 0, .slice none 0 0] 28)))
  have HF := Lib.hid (show (((w.alloc (.cells #[.int .i64 1, .int .i64 1, .slice (some ⟨g, 0, none⟩) 1 c] 28)).alloc (.cells #[.func (.func 192) #[] #[]] 83)).alloc (.cells #[.int .i64 0, .int .i64 0, .slice none 0 0] 28)).heap[w.heap.size + 1]? = some (.cells #[.func (.func 192) #[] #[]] 83) by
    have := hbk L1 ((Below.refl _ _).alloc (Nat.le_refl _) (.cells #[.int .i64 0, .int .i64 0, .slice none 0 0] 28))
    simpa using this)
  have HR := Lib.hid (show (((w.alloc (.cells #[.int .i64 1, .int .i64 1, .slice (some ⟨g, 0, none⟩) 1 c] 28)).alloc (.cells #[.func (.func 192) #[] #[]] 83)).alloc (.cells #[.int .i64 0, .int .i64 0, .slice none 0 0] 28)).heap[w.heap.size + 2]? = some (.cells #[.int .i64 0, .int .i64 0, .slice none 0 0] 28) by
    have := L2
    simpa using this)
  clear L0 L1 L2 h
  go_enter Tryz.func259, Tryz.ntmps259
  go_wp2_with fail
  refine Calls.mono (shapeRight75 b g c _ HG.out) ?_
  rintro _ w3 ⟨rfl, q⟩
  have HB3 := Lib.hid (HB.out.trans (q.mono HB.out.size))
  have HG3 := Lib.hid (hbk HG.out q)
  have HS3 := Lib.hid (hbk HS.out q)
  have HF3 := Lib.hid (hbk HF.out q)
  have HR3 := Lib.hid (hbk HR.out q)
  clear q HB HG HS HF HR
  have s0 := cell_at HS3.out (o := 0) (v := .int .i64 1) rfl
  have s1 := cell_at HS3.out (o := 1) (v := .int .i64 1) rfl
  go_wp2_with fail
  refine Calls.mono (build79 b (w.heap.size + 1) w.heap.size g c w3 HF3.out HS3.out HG3.out) ?_
  rintro _ w4 ⟨v, rfl, hrow, q⟩
  clear s0 s1
  have HB4 := Lib.hid (HB3.out.trans (q.mono HB3.out.size))
  have HR4 := Lib.hid (hbk HR3.out q)
  have hl3 := hlt HR3.out
  obtain ⟨A, c2, rfl⟩ := row_form hrow
  have HW := Lib.hid (row_le (row_setRow (r := w.heap.size + 2) (cs := #[.int .i64 1, .int .i64 1, .slice A 1 c2]) hrow (by omega)) (show w.heap.size ≤ w3.heap.size + 1 by omega))
  have HN := Lib.hid (setRow_heap w4 (w.heap.size + 2) _ #[.int .i64 1, .int .i64 1, .slice A 1 c2] _ _ HR4.out)
  have HB5 := Lib.hid (below_setRow HB4.out (Nat.le_add_right _ 2) #[.int .i64 1, .int .i64 1, .slice A 1 c2])
  clear q hrow hl3 HB3 HG3 HS3 HF3 HR3
  go_wp2_with (refine wpList_store_row rfl 28 _ _ rfl (w.heap.size + 2) #[.int .i64 1, .int .i64 1, .slice A 1 c2] rfl rfl 28 #[.int .i64 0, .int .i64 0, .slice none 0 0] HR4.out (by kernel_rfl) rfl (by simp [Value.oneCell']) ?_)
  have r0 := cell_at HN.out (o := 0) (v := .int .i64 1) rfl
  have r1 := cell_at HN.out (o := 1) (v := .int .i64 1) rfl
  have r2 := cell_at HN.out (o := 2) (v := .slice A 1 c2) rfl
  exact bodyPost_ret (v := .agg #[.int .i64 1, .int .i64 1, .slice A 1 c2]) (by simp [results, Tryz.results259, go_sem, r0, r1, r2]) rfl ⟨_, rfl, HW.out, HB5.out⟩
end Go.Proofs.YtdmbppgogdkpdaaGreatDoor
