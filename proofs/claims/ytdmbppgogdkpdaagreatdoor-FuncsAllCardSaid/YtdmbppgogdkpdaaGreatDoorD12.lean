/-
  The engine is awake. No condition.
-/
import Derived.Test.YtdmbppgogdkpdaaGreatDoorD0
import Derived.Test.YtdmbppgogdkpdaaGreatDoorD10
import Derived.Test.YtdmbppgogdkpdaaGreatDoorD11
namespace Go.Proofs.YtdmbppgogdkpdaaGreatDoor
open Go.RowKit Go.Maps Go.Sort Go.Shelf
theorem below_through {w W W' : World} {o : Obj} (h : Below w.heap.size w W) (q : Below (W.alloc o).heap.size (W.alloc o) W') : Below w.heap.size w W' :=
  (h.alloc h.size o).trans (q.mono (h.alloc h.size o).size)
theorem heap_through {W W' : World} {o x : Obj} {b : Nat} (h : W.heap[b]? = some x) (q : Below (W.alloc o).heap.size (W.alloc o) W') : W'.heap[b]? = some x :=
  hbk (hbk h ((Below.refl _ _).alloc (Nat.le_refl _) o)) q
theorem cells_through {W W' : World} {o : Obj} {cs : List (Addr × Value)} (h : AllCells W cs) (q : Below (W.alloc o).heap.size (W.alloc o) W') : AllCells W' cs :=
  AllCells.below (AllCells.alloc h o) q
theorem row_open {w : World} {B e k c0 : Nat} {v : Value} {xs : List Value} (h : w.ownsRow B e k v (c0 + 1) xs) : ∃ g c, v = .slice (some ⟨g, 0, none⟩) (c0 + 1) c ∧ ∀ i u, xs[i]? = some u → w.cell? ⟨g, i, none⟩ = some u := by
  rcases h.2 with ⟨_, h0⟩ | ⟨g, cap, cur, rfl, _⟩
  · cases h0
  · refine ⟨g, cap, rfl, fun i u hu => ?_⟩
    have c1 := h.cells (g := g) rfl i u hu
    have add : (⟨g, 0, none⟩ : Addr).add i = ⟨g, i, none⟩ := by unfold Addr.add; split <;> simp_all
    rw [add] at c1
    exact c1
set_option maxRecDepth 100000 in
set_option maxHeartbeats 4000000 in
theorem awake7 : AwakeP := by
  intro w
  have HB := Lib.hid ((((Below.refl w.heap.size w).alloc (Nat.le_refl _) (.cells (cB true) 41)).alloc (by simp) (.cells #[.int .i64 1, .int .i64 1, .slice (some ⟨w.heap.size, 0, none⟩) 1 1] 28)).alloc (by simp; omega) (.cells #[.int .i64 1, .int .i64 1, .slice (some ⟨w.heap.size, 0, none⟩) 1 1] 28))
  have H0 := Lib.hid (hbk (hbk (new_lies w (.cells (cB true) 41)) ((Below.refl _ _).alloc (Nat.le_refl _) (.cells #[.int .i64 1, .int .i64 1, .slice (some ⟨w.heap.size, 0, none⟩) 1 1] 28))) ((Below.refl _ _).alloc (Nat.le_refl _) (.cells #[.int .i64 1, .int .i64 1, .slice (some ⟨w.heap.size, 0, none⟩) 1 1] 28)))
  have H1 := Lib.hid (show (((w.alloc (.cells (cB true) 41)).alloc (.cells #[.int .i64 1, .int .i64 1, .slice (some ⟨w.heap.size, 0, none⟩) 1 1] 28)).alloc (.cells #[.int .i64 1, .int .i64 1, .slice (some ⟨w.heap.size, 0, none⟩) 1 1] 28)).heap[w.heap.size + 1]? = some (.cells #[.int .i64 1, .int .i64 1, .slice (some ⟨w.heap.size, 0, none⟩) 1 1] 28) by
    have := hbk (new_lies (w.alloc (.cells (cB true) 41)) (.cells #[.int .i64 1, .int .i64 1, .slice (some ⟨w.heap.size, 0, none⟩) 1 1] 28)) ((Below.refl _ _).alloc (Nat.le_refl _) (.cells #[.int .i64 1, .int .i64 1, .slice (some ⟨w.heap.size, 0, none⟩) 1 1] 28))
    simpa using this)
  have H2 := Lib.hid (show (((w.alloc (.cells (cB true) 41)).alloc (.cells #[.int .i64 1, .int .i64 1, .slice (some ⟨w.heap.size, 0, none⟩) 1 1] 28)).alloc (.cells #[.int .i64 1, .int .i64 1, .slice (some ⟨w.heap.size, 0, none⟩) 1 1] 28)).heap[w.heap.size + 1 + 1]? = some (.cells #[.int .i64 1, .int .i64 1, .slice (some ⟨w.heap.size, 0, none⟩) 1 1] 28) by
    have := new_lies ((w.alloc (.cells (cB true) 41)).alloc (.cells #[.int .i64 1, .int .i64 1, .slice (some ⟨w.heap.size, 0, none⟩) 1 1] 28)) (.cells #[.int .i64 1, .int .i64 1, .slice (some ⟨w.heap.size, 0, none⟩) 1 1] 28)
    simpa using this)
  have HK := Lib.hid (fun W => known10 ⟨#[73, 70]⟩ W)
  rw [show (countP (⟨#[73, 70]⟩ : ByteArray).toList).2.2 = true from by decide +kernel] at HK
  go_enter Tryz.func7, Tryz.ntmps7
  go_wp2_with (refine wpList_store_row rfl 28 _ _ rfl (w.heap.size + 1) #[.int .i64 1, .int .i64 1, .slice (some ⟨w.heap.size, 0, none⟩) 1 1] rfl rfl 28 #[.int .i64 0, .int .i64 0, .slice none 0 0] (new_lies (w.alloc _) _) (by kernel_rfl) rfl (by simp [Value.oneCell']) ?_)
  refine Calls.mono (call16_not true _ 1 w.heap.size 1 _ H2.out H0.out) ?_
  rintro _ w3 ⟨v, rfl, hrow, q⟩
  obtain ⟨ga, c2, rfl, hcs⟩ := row_open hrow
  have HB3 := Lib.hid ((HB.out.trans (q.mono HB.out.size)).alloc (Nat.le_trans HB.out.size q.size) (.cells #[.int .i64 1, .int .i64 1, .slice (some ⟨ga, 0, none⟩) 1 c2] 28))
  have H13 := Lib.hid (hbk (hbk H1.out q) ((Below.refl _ _).alloc (Nat.le_refl _) (.cells #[.int .i64 1, .int .i64 1, .slice (some ⟨ga, 0, none⟩) 1 c2] 28)))
  have HM := Lib.hid (new_lies w3 (.cells #[.int .i64 1, .int .i64 1, .slice (some ⟨ga, 0, none⟩) 1 c2] 28))
  have HC0 : AllCells w3 [(⟨ga, 0, none⟩, .int .i64 3), (⟨ga, 1, none⟩, .int .i64 0), (⟨ga, 2, none⟩, .int .i64 0), (⟨ga, 3, none⟩, .string ⟨#[]⟩), (⟨ga, 4, none⟩, .bool false), (⟨ga, 5, none⟩, .int .i64 0)] :=
    ⟨hcs 0 _ rfl, hcs 1 _ rfl, hcs 2 _ rfl, hcs 3 _ rfl, hcs 4 _ rfl, hcs 5 _ rfl, trivial⟩
  have HC := AllCells.alloc HC0 (.cells #[.int .i64 1, .int .i64 1, .slice (some ⟨ga, 0, none⟩) 1 c2] 28)
  clear HC0
  clear q hrow hcs HB H0 H1 H2
  have e0 := cell_at H13.out (o := 0) (v := .int .i64 1) rfl
  have e1 := cell_at H13.out (o := 1) (v := .int .i64 1) rfl
  have e2 := cell_at H13.out (o := 2) (v := .slice (some ⟨w.heap.size, 0, none⟩) 1 1) rfl
  have HC' := Lib.hid HC
  clear HC
  go_wp2_with (refine wpList_store_row rfl 28 _ _ rfl w3.heap.size #[.int .i64 1, .int .i64 1, .slice (some ⟨ga, 0, none⟩) 1 c2] rfl rfl 28 #[.int .i64 0, .int .i64 0, .slice none 0 0] (new_lies w3 _) (by kernel_rfl) rfl (by simp [Value.oneCell']) ?_; rw [World.setRow_alloc_new])
  clear e0 e1 e2
  refine Calls.mono (call16_if _ 2 2 _) ?_
  rintro _ w4 ⟨rfl, q⟩
  have HB4 := Lib.hid ((below_through HB3.out q).alloc (below_through HB3.out q).size (.cells #[.int .i64 0, .int .i64 0, .slice none 0 0] 28))
  have HC4 := Lib.hid (AllCells.alloc (cells_through HC'.out q) (.cells #[.int .i64 0, .int .i64 0, .slice none 0 0] 28))
  have HM4 := Lib.hid (hbk (heap_through HM.out q) ((Below.refl _ _).alloc (Nat.le_refl _) (.cells #[.int .i64 0, .int .i64 0, .slice none 0 0] 28)))
  clear q HB3 HC' HM H13
  go_wp2_with (refine wpList_store_row rfl 28 _ _ rfl w4.heap.size #[.int .i64 0, .int .i64 0, .slice none 0 0] rfl rfl 28 #[.int .i64 0, .int .i64 0, .slice none 0 0] (new_lies w4 _) (by kernel_rfl) rfl (by simp [Value.oneCell']) ?_; rw [World.setRow_alloc_new])
  refine Calls.mono (HK.out _) ?_
  rintro _ w5 ⟨rfl, q⟩
  have HB5 := Lib.hid (HB4.out.trans (q.mono HB4.out.size))
  have HC5 := AllCells.below HC4.out q
  have HM5 := Lib.hid (hbk HM4.out q)
  clear q HB4 HC4 HM4
  have e2 := cell_at HM5.out (o := 2) (v := .slice (some ⟨ga, 0, none⟩) 1 c2) rfl
  obtain ⟨d0, d1, d2, d3, d4, d5, _⟩ := HC5
  go_wp2_with fail
  go_ret
  exact ⟨rfl, HB5.out⟩
theorem law3_holds (s : ByteArray) (w : World) : Calls Tryz.prog 3 #[.string s] w fun e w' => e = .returned (.bool true) ∧ Below w.heap.size w w' := law3 awake7 s w
end Go.Proofs.YtdmbppgogdkpdaaGreatDoor
