/-
  seqc.New: its contract. Condition: the ids can be read, and lie in no block of the tag t.
-/
import Derived.Test.YtgmlhpkhecbkoaaS5
namespace Go.Proofs.Ytgmlhpkhecbkoaa
open Go.RowKit

@[go_sem ↓] theorem Try.make97 (w : World) : (Instr.makeMap 97 none).run Try.prog w = .ok (.map (some w.heap.size)) (w.alloc (.map #[] 0)) := by
  simp [Instr.makeMap, run_underlying Try.underlying97]

theorem MapIs.alloc {w : World} {s : Nat} {l : List (Id × Value)} (h : MapIs w s l) (o : Obj) : MapIs (w.alloc o) s l := h.kept (Below.heap_alloc w o s h.lt)
theorem MapIs.store {w : World} {s : Nat} {l : List (Id × Value)} (h : MapIs w s l) {p : Addr} (u : Value) {e : TypeId} {cs : Array Value} (hb : Blk w p.block e cs) : MapIs (w.setCell p u) s l := h.kept (Below.heap_setCell w p u s (fun e => hb.ne_map h e.symm))

set_option maxRecDepth 100000 in
set_option maxHeartbeats 2000000 in
/-- The maps of a zero one are made. -/
theorem prep0_c (w : World) (own : Tags) (t p : Nat) (hp : own p = t) (hb : Blk w p 100 #[.slice none 0 0, .map none, .map none, .slice none 0 0, .map none]) :
    Calls Try.prog 61 #[.pointer (some ⟨p, 0, none⟩)] w fun e w' => e = .returned (.tuple #[]) ∧ ∃ own', Tr own t w own' w' ∧ ∃ s h b, ShIs w' own' t p [] [] [] (.slice none 0 0) s h (.slice none 0 0) b [] := by
  have c1 := hb.cell 1
  have g2 := hb.cell 2
  have g4 := hb.cell 4
  simp at c1 g2 g4
  have f1 := hb.frozen 1
  have f2 := hb.frozen 2
  have f4 := hb.frozen 4
  have hpl := hb.lt
  have hpl1 : p < w.heap.size + 1 := by omega
  have hpl2 : p < w.heap.size + 1 + 1 := by omega
  have hws : (((w.setCell ⟨p, 1, none⟩ (.map (some w.heap.size))).setCell ⟨p, 2, none⟩ (.map (some (w.heap.size + 1)))).setCell ⟨p, 4, none⟩ (.map (some (w.heap.size + 1 + 1)))).heap.size = w.heap.size := by simp
  have b6 := ((((((hb.store 1 (.map (some w.heap.size))).store 2 (.map (some (w.heap.size + 1)))).store 4 (.map (some (w.heap.size + 1 + 1)))).alloc (.map #[] 0)).alloc (.map #[] 0)).alloc (.map #[] 0))
  have m1 := ((MapIs.made (((w.setCell ⟨p, 1, none⟩ (.map (some w.heap.size))).setCell ⟨p, 2, none⟩ (.map (some (w.heap.size + 1)))).setCell ⟨p, 4, none⟩ (.map (some (w.heap.size + 1 + 1))))).alloc (.map #[] 0)).alloc (.map #[] 0)
  have m2 := (MapIs.made ((((w.setCell ⟨p, 1, none⟩ (.map (some w.heap.size))).setCell ⟨p, 2, none⟩ (.map (some (w.heap.size + 1)))).setCell ⟨p, 4, none⟩ (.map (some (w.heap.size + 1 + 1)))).alloc (.map #[] 0))).alloc (.map #[] 0)
  have m3 := MapIs.made (((((w.setCell ⟨p, 1, none⟩ (.map (some w.heap.size))).setCell ⟨p, 2, none⟩ (.map (some (w.heap.size + 1)))).setCell ⟨p, 4, none⟩ (.map (some (w.heap.size + 1 + 1)))).alloc (.map #[] 0)).alloc (.map #[] 0))
  rw [hws] at m1
  rw [World.size_alloc, hws] at m2
  rw [World.size_alloc, World.size_alloc, hws] at m3
  have tr := ((((((Tr.refl own t w).setCell (p := ⟨p, 1, none⟩) (.inl hp) (.map (some w.heap.size))).setCell (p := ⟨p, 2, none⟩) (.inl hp) (.map (some (w.heap.size + 1)))).setCell (p := ⟨p, 4, none⟩) (.inl hp) (.map (some (w.heap.size + 1 + 1)))).alloc (.map #[] 0)).alloc (.map #[] 0)).alloc (.map #[] 0)
  have tr' := ((tr.tag (k := w.heap.size) (Nat.le_refl _) (by simp; omega) t).tag (k := w.heap.size + 1) (by omega) (by simp) t).tag (k := w.heap.size + 1 + 1) (by omega) (by simp) t
  have FIN := Lib.hid (show ∃ own', Tr own t w own' ((((((w.setCell ⟨p, 1, none⟩ (.map (some w.heap.size))).setCell ⟨p, 2, none⟩ (.map (some (w.heap.size + 1)))).setCell ⟨p, 4, none⟩ (.map (some (w.heap.size + 1 + 1)))).alloc (.map #[] 0)).alloc (.map #[] 0)).alloc (.map #[] 0)) ∧ ∃ s h b, ShIs ((((((w.setCell ⟨p, 1, none⟩ (.map (some w.heap.size))).setCell ⟨p, 2, none⟩ (.map (some (w.heap.size + 1)))).setCell ⟨p, 4, none⟩ (.map (some (w.heap.size + 1 + 1)))).alloc (.map #[] 0)).alloc (.map #[] 0)).alloc (.map #[] 0)) own' t p [] [] [] (.slice none 0 0) s h (.slice none 0 0) b [] from
    ⟨_, tr', w.heap.size, w.heap.size + 1, w.heap.size + 1 + 1, ⟨by simp only [tagAt]; rw [if_neg (by omega), if_neg (by omega), if_neg (by omega)]; exact hp, by simpa using b6, Row.nil _ _ _ _ _, by simp [tagAt], m1, by simp [tagAt], m2, by simp [tagAt], m3, Row.nil _ _ _ _ _, by omega, by omega, by omega, by simp [getKV], by simp [kids_nil], by simp [getKV]⟩⟩)
  clear b6 m1 m2 m3 tr tr' hb hws
  go_enter Try.func61, Try.ntmps61
  go_wp2
  go_end0
  exact ⟨rfl, FIN.out⟩
end Go.Proofs.Ytgmlhpkhecbkoaa
