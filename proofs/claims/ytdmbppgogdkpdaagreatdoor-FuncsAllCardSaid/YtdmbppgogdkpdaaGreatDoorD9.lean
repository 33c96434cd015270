/-
  The family of logic: it does not know IF; it knows NOT. No condition.
-/
import Derived.Test.YtdmbppgogdkpdaaGreatDoorD8
namespace Go.Proofs.YtdmbppgogdkpdaaGreatDoor
open Go.RowKit Go.Maps Go.Sort Go.Shelf
set_option maxRecDepth 100000 in
set_option maxHeartbeats 4000000 in
theorem call49_if (A : Option Addr) (n c : Nat) (w : World) :
    Calls Tryz.prog 49 #[.string ⟨#[73, 70]⟩, .slice A n c] w fun e w' => e = .returned (.tuple #[.agg #[.int .i64 0, .int .i64 0, .slice none 0 0], .bool false]) ∧ Below w.heap.size w w' := by
  have HB := Lib.hid ((Below.refl w.heap.size w).alloc (Nat.le_refl _) (.cells #[.int .i64 0, .int .i64 0, .slice none 0 0] 28))
  have HL := Lib.hid (new_lies w (.cells #[.int .i64 0, .int .i64 0, .slice none 0 0] 28))
  go_enter Tryz.func49, Tryz.ntmps49
  go_wp2_with fail
  refine Calls.mono (table93 _) ?_
  rintro _ w1 ⟨b, D, a, rfl, ht, _, _, _, hn⟩
  have hrun := look_none (t := 102) ht.own law9 Tryz.underlying102 (Tryz.zeroValue104 _) (Go.WideMaps.keyOf_string_mk (s := ⟨#[73, 70]⟩) Tryz.underlying9 (by decide)) hn
  have HB1 := Lib.hid ((HB.out.trans (ht.below.mono HB.out.size)).alloc (Nat.le_trans HB.out.size ht.below.size) (.cells #[.int .i64 0, .int .i64 0, .nilFunc] 104))
  have HL1 := Lib.hid (hbk (hbk HL.out ht.below) ((Below.refl _ _).alloc (Nat.le_refl _) (.cells #[.int .i64 0, .int .i64 0, .nilFunc] 104)))
  have HQ := Lib.hid (setRow_heap (w1.alloc (.cells #[.int .i64 0, .int .i64 0, .nilFunc] 104)) w.heap.size _ #[.int .i64 0, .int .i64 0, .slice none 0 0] _ _ HL1.out)
  have HB5 := Lib.hid (below_setRow HB1.out (Nat.le_refl _) #[.int .i64 0, .int .i64 0, .slice none 0 0])
  clear ht HB HL hn
  go_wp2_with (first
    | (refine wpList_store_row rfl 104 _ _ rfl w1.heap.size #[.int .i64 0, .int .i64 0, .nilFunc] rfl rfl 104 #[.int .i64 0, .int .i64 0, .nilFunc] (new_lies w1 _) (by kernel_rfl) rfl (by simp [Value.oneCell']) ?_; rw [World.setRow_alloc_new])
    | refine wpList_store_row rfl 28 _ _ rfl w.heap.size #[.int .i64 0, .int .i64 0, .slice none 0 0] rfl rfl 28 #[.int .i64 0, .int .i64 0, .slice none 0 0] HL1.out (by kernel_rfl) rfl (by simp [Value.oneCell']) ?_)
  have r0 := cell_at HQ.out (o := 0) (v := .int .i64 0) rfl
  have r1 := cell_at HQ.out (o := 1) (v := .int .i64 0) rfl
  have r2 := cell_at HQ.out (o := 2) (v := .slice none 0 0) rfl
  exact bodyPost_ret (v := .tuple #[.agg #[.int .i64 0, .int .i64 0, .slice none 0 0], .bool false]) (by simp [results, Tryz.results49, go_sem, r0, r1, r2]) rfl ⟨rfl, HB5.out⟩
set_option maxRecDepth 100000 in
set_option maxHeartbeats 4000000 in
theorem call49_not (b : Bool) (s sc g c : Nat) (w : World) (h1 : w.heap[s]? = some (.cells #[.int .i64 1, .int .i64 1, .slice (some ⟨g, 0, none⟩) 1 c] 28)) (h3 : w.heap[g]? = some (.cells (cB b) 41)) :
    Calls Tryz.prog 49 #[.string ⟨#[78, 79, 84]⟩, .slice (some ⟨s, 0, none⟩) 1 sc] w fun e w' => ∃ (v : Value), e = .returned (.tuple #[.agg #[.int .i64 1, .int .i64 1, v], .bool true]) ∧ w'.ownsRow w.heap.size 41 6 v 1 (cB (!b)).toList ∧ Below w.heap.size w w' := by
  have G1 := Lib.hid h1
  have G3 := Lib.hid h3
  clear h1 h3
  have HB := Lib.hid ((Below.refl w.heap.size w).alloc (Nat.le_refl _) (.cells #[.int .i64 0, .int .i64 0, .slice none 0 0] 28))
  have HL := Lib.hid (new_lies w (.cells #[.int .i64 0, .int .i64 0, .slice none 0 0] 28))
  go_enter Tryz.func49, Tryz.ntmps49
  go_wp2_with fail
  refine Calls.mono (table93 _) ?_
  rintro _ w1 ⟨mb, D, a, rfl, ht, _, hn, hbx, _⟩
  have hrun := look_held (t := 102) ht.own law9 Tryz.underlying102 (Tryz.zeroValue104 _) (Go.WideMaps.keyOf_string_mk (s := ⟨#[78, 79, 84]⟩) Tryz.underlying9 (by decide)) hn
  have HB1 := Lib.hid ((HB.out.trans (ht.below.mono HB.out.size)).alloc (Nat.le_trans HB.out.size ht.below.size) (.cells #[.int .i64 1, .int .i64 1, .func (.func 279) #[] #[.pointer (some ⟨a, 0, none⟩)]] 104))
  have HL1 := Lib.hid (hbk (hbk HL.out ht.below) ((Below.refl _ _).alloc (Nat.le_refl _) (.cells #[.int .i64 1, .int .i64 1, .func (.func 279) #[] #[.pointer (some ⟨a, 0, none⟩)]] 104)))
  have HX1 := Lib.hid (hbk hbx.lies ((Below.refl _ _).alloc (Nat.le_refl _) (.cells #[.int .i64 1, .int .i64 1, .func (.func 279) #[] #[.pointer (some ⟨a, 0, none⟩)]] 104)))
  have HP1 := Lib.hid (new_lies w1 (.cells #[.int .i64 1, .int .i64 1, .func (.func 279) #[] #[.pointer (some ⟨a, 0, none⟩)]] 104))
  have HPS := Lib.hid (show w.heap.size ≤ w1.heap.size from Nat.le_trans HB.out.size ht.below.size)
  clear ht HB HL hn hbx
  have q0 := cell_at HP1.out (o := 0) (v := .int .i64 1) rfl
  have q1 := cell_at HP1.out (o := 1) (v := .int .i64 1) rfl
  go_wp2_with (refine wpList_store_row rfl 104 _ _ rfl w1.heap.size #[.int .i64 1, .int .i64 1, .func (.func 279) #[] #[.pointer (some ⟨a, 0, none⟩)]] rfl rfl 104 #[.int .i64 0, .int .i64 0, .nilFunc] (new_lies w1 _) (by kernel_rfl) rfl (by simp [Value.oneCell']) ?_; rw [World.setRow_alloc_new])
  clear q0 q1 hrun
  generalize w1.alloc (.cells #[.int .i64 1, .int .i64 1, .func (.func 279) #[] #[.pointer (some ⟨a, 0, none⟩)]] 104) = V at *
  generalize w1.heap.size = p at *
  go_loopw [34] (fun v wr => ∃ j : Nat, j ≤ 1 ∧ v = .int .i64 (j : Int) ∧ Hid (Below w.heap.size w wr) ∧ Hid (wr.heap[w.heap.size]? = some (.cells #[.int .i64 0, .int .i64 0, .slice none 0 0] 28)) ∧ Hid (wr.heap[p]? = some (.cells #[.int .i64 1, .int .i64 1, .func (.func 279) #[] #[.pointer (some ⟨a, 0, none⟩)]] 104)) ∧ Hid (wr.heap[a]? = some (.cells #[.func (.func 192) #[] #[]] 83))) (fun v _ => 1 - (intOf v).toNat)
  case atStart => exact ⟨0, by omega, rfl, HB1, HL1, HP1, HX1⟩
  case round =>
    obtain ⟨j, hj, rfl, hb, hl, hp, hx⟩ := hrel
    clear HB1 HL1 HP1 HX1
    rcases (show j = 0 ∨ j = 1 by omega) with rfl | rfl
    · have k0 : wr.cell? ⟨s, 0, none⟩ = some (.int .i64 1) := cell_at (hbk G1.out hb.out) rfl
      have k1 : wr.cell? ⟨s, 1, none⟩ = some (.int .i64 1) := cell_at (hbk G1.out hb.out) rfl
      have k2 : wr.cell? ⟨s, 2, none⟩ = some (.slice (some ⟨g, 0, none⟩) 1 c) := cell_at (hbk G1.out hb.out) rfl
      have HB2 := Lib.hid (hb.out.alloc hb.out.size (.cells #[.int .i64 1, .int .i64 1, .slice (some ⟨g, 0, none⟩) 1 c] 28))
      have hL2 := Lib.hid (hbk hl.out ((Below.refl _ _).alloc (Nat.le_refl _) (.cells #[.int .i64 1, .int .i64 1, .slice (some ⟨g, 0, none⟩) 1 c] 28)))
      have hP2 := Lib.hid (hbk hp.out ((Below.refl _ _).alloc (Nat.le_refl _) (.cells #[.int .i64 1, .int .i64 1, .slice (some ⟨g, 0, none⟩) 1 c] 28)))
      have hX2 := Lib.hid (hbk hx.out ((Below.refl _ _).alloc (Nat.le_refl _) (.cells #[.int .i64 1, .int .i64 1, .slice (some ⟨g, 0, none⟩) 1 c] 28)))
      have HNl := Lib.hid (new_lies wr (.cells #[.int .i64 1, .int .i64 1, .slice (some ⟨g, 0, none⟩) 1 c] 28))
      have m0 := cell_at HNl.out (o := 0) (v := .int .i64 1) rfl
      have m1 := cell_at HNl.out (o := 1) (v := .int .i64 1) rfl
      have m2 := cell_at HNl.out (o := 2) (v := .slice (some ⟨g, 0, none⟩) 1 c) rfl
      go_wp2_with (refine wpList_store_row rfl 28 _ _ rfl wr.heap.size #[.int .i64 1, .int .i64 1, .slice (some ⟨g, 0, none⟩) 1 c] rfl rfl 28 #[.int .i64 0, .int .i64 0, .slice none 0 0] (new_lies wr _) (by kernel_rfl) rfl (by simp [Value.oneCell']) ?_; rw [World.setRow_alloc_new])
      refine Calls.mono (shapeRight75 b g c _ (hbk G3.out HB2.out)) ?_
      rintro _ w3 ⟨rfl, q⟩
      clear k0 k1 k2 m0 m1 m2
      have HB3 := Lib.hid (HB2.out.trans (q.mono HB2.out.size))
      have hL3 := Lib.hid (hbk hL2.out q)
      have hP3 := Lib.hid (hbk hP2.out q)
      have hX3 := Lib.hid (hbk hX2.out q)
      clear q HB2 hL2 hP2 hX2 HNl
      go_wp2_with fail
      exact ⟨⟨1, by omega, rfl, HB3, hL3, hP3, hX3⟩, by simp [intOf]⟩
    · have q2 := cell_at hp.out (o := 2) (v := .func (.func 279) #[] #[.pointer (some ⟨a, 0, none⟩)]) rfl
      go_wp2_with fail
      refine Calls.mono (each279 b s sc a g c wr (hbk G1.out hb.out) hx.out (hbk G3.out hb.out)) ?_
      rintro _ w4 ⟨v, rfl, hrow, q⟩
      obtain ⟨A, c2, rfl⟩ := row_form hrow
      clear q2
      have HB4 := Lib.hid (hb.out.trans (q.mono hb.out.size))
      have HR4 := Lib.hid (hbk hl.out q)
      have HW := Lib.hid (row_le (row_setRow (r := w.heap.size) (cs := #[.int .i64 1, .int .i64 1, .slice A 1 c2]) hrow (hlt hl.out)) hb.out.size)
      have HN := Lib.hid (setRow_heap w4 w.heap.size _ #[.int .i64 1, .int .i64 1, .slice A 1 c2] _ _ HR4.out)
      have HB5 := Lib.hid (below_setRow HB4.out (Nat.le_refl _) #[.int .i64 1, .int .i64 1, .slice A 1 c2])
      clear q hrow hb hl hp hx
      go_wp2_with (refine wpList_store_row rfl 28 _ _ rfl w.heap.size #[.int .i64 1, .int .i64 1, .slice A 1 c2] rfl rfl 28 #[.int .i64 0, .int .i64 0, .slice none 0 0] HR4.out (by kernel_rfl) rfl (by simp [Value.oneCell']) ?_)
      have r0 := cell_at HN.out (o := 0) (v := .int .i64 1) rfl
      have r1 := cell_at HN.out (o := 1) (v := .int .i64 1) rfl
      have r2 := cell_at HN.out (o := 2) (v := .slice A 1 c2) rfl
      exact bodyPost_ret (v := .tuple #[.agg #[.int .i64 1, .int .i64 1, .slice A 1 c2], .bool true]) (by simp [results, Tryz.results49, go_sem, r0, r1, r2]) rfl ⟨_, rfl, HW.out, HB5.out⟩
end Go.Proofs.YtdmbppgogdkpdaaGreatDoor
