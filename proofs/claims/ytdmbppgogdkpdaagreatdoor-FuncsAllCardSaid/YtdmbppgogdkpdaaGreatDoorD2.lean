/-
  The engine awake: the shape of TRUE is right. No condition.
-/
import Derived.Test.YtdmbppgogdkpdaaGreatDoorD1
namespace Go.Proofs.YtdmbppgogdkpdaaGreatDoor
open Go.RowKit Go.Maps Go.Sort Go.Shelf
theorem hlt {w : World} {g : Nat} {o : Obj} (h : w.heap[g]? = some o) : g < w.heap.size := by
  rcases Nat.lt_or_ge g w.heap.size with k | k
  · exact k
  · rw [Array.getElem?_eq_none k] at h; cases h
set_option maxRecDepth 100000 in
set_option maxHeartbeats 4000000 in
theorem shapeRight75 (b : Bool) (g c : Nat) (w : World) (h : w.heap[g]? = some (.cells (cB b) 41)) : Calls Tryz.prog 75 #[.agg #[.int .i64 1, .int .i64 1, .slice (some ⟨g, 0, none⟩) 1 c]] w fun e w' => e = .returned (.bool true) ∧ Below w.heap.size w w' := by
  have HB := Lib.hid ((Below.refl w.heap.size w).alloc (Nat.le_refl _) (.cells #[.int .i64 1, .int .i64 1, .slice (some ⟨g, 0, none⟩) 1 c] 28))
  have HL := Lib.hid (new_lies w (.cells #[.int .i64 1, .int .i64 1, .slice (some ⟨g, 0, none⟩) 1 c] 28))
  have HG := Lib.hid (hbk h ((Below.refl _ w).alloc (Nat.le_refl _) (.cells #[.int .i64 1, .int .i64 1, .slice (some ⟨g, 0, none⟩) 1 c] 28)))
  clear h
  go_enter Tryz.func75, Tryz.ntmps75
  go_wp2_with fail
  refine Calls.mono (fits125 _) ?_
  rintro _ w1 ⟨rfl, rfl⟩
  go_wp2_with fail
  go_loopw [24] (fun v wr => ∃ j : Nat, j ≤ 1 ∧ v = .int .i64 (j : Int) ∧ Hid (Below w.heap.size w wr) ∧ Hid (wr.heap[w.heap.size]? = some (.cells #[.int .i64 1, .int .i64 1, .slice (some ⟨g, 0, none⟩) 1 c] 28)) ∧ Hid (wr.heap[g]? = some (.cells (cB b) 41))) (fun v _ => 1 - (intOf v).toNat)
  case atStart => exact ⟨0, by omega, rfl, HB, HL, HG⟩
  case round =>
    obtain ⟨j, hj, rfl, hb, hl, hg⟩ := hrel
    clear HB HL HG
    rcases (show j = 0 ∨ j = 1 by omega) with rfl | rfl
    · have g2 : wr.cell? ⟨w.heap.size, 2, none⟩ = some (.slice (some ⟨g, 0, none⟩) 1 c) := cell_at hl.out rfl
      have k0 : wr.cell? ⟨g, 0, none⟩ = some (.int .i64 3) := cell_at hg.out rfl
      have k1 : wr.cell? ⟨g, 1, none⟩ = some (.int .i64 0) := cell_at hg.out rfl
      have k2 : wr.cell? ⟨g, 2, none⟩ = some (.int .i64 0) := cell_at hg.out rfl
      have k3 : wr.cell? ⟨g, 3, none⟩ = some (.string ⟨#[]⟩) := cell_at hg.out rfl
      have k4 : wr.cell? ⟨g, 4, none⟩ = some (.bool b) := cell_at hg.out rfl
      have k5 : wr.cell? ⟨g, 5, none⟩ = some (.int .i64 0) := cell_at hg.out rfl
      go_wp2_with fail
      refine Calls.mono (right126 b wr) ?_
      rintro _ w3 ⟨rfl, q⟩
      clear g2 k0 k1 k2 k3 k4 k5
      have hb' := Lib.hid (hb.out.trans (q.mono hb.out.size))
      have hl' := Lib.hid (hbk hl.out q)
      have hg' := Lib.hid (hbk hg.out q)
      clear q
      go_wp2_with fail
      exact ⟨⟨1, by omega, rfl, hb', hl', hg'⟩, by simp [intOf]⟩
    · go_wp2_with fail
      go_ret
      exact ⟨rfl, hb.out⟩
end Go.Proofs.YtdmbppgogdkpdaaGreatDoor
