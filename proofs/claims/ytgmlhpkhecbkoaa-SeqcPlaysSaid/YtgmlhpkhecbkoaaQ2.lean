/-
  (*Axis).All: what it hands back; its closure, for every loop body that leaves foreign blocks alone. Condition: the axis lies in memory as AxisAt says.
-/
import Derived.Test.YtgmlhpkhecbkoaaQ1
import Derived.Test.YtgmlhpkhecbkoaaR4
namespace Go.Proofs.Ytgmlhpkhecbkoaa
open Go.RowKit Go.Shelf

attribute [local go_sem] Oper.semAt_some

@[go_sem ↓] theorem Try.eqlnil53 (w : World) (A : Option Addr) (n c : Nat) : (binOp .eql 53 (.slice A n c) (.slice none 0 0)).run Try.prog w = .ok (.bool A.isNone) w := Lib.run_eql_slice_nil w _ _ A n c 0 0 Try.underlying53

/-- A new list of bools is handed back. -/
def BListP (w : World) (own : Tags) (t : Nat) (l : List Bool) (e : Ending) (w' : World) : Prop :=
  ∃ v own', e = .returned v ∧ Tr own t w own' w' ∧ Row w' own' t 4 1 v l.length (boolCells l)
set_option maxRecDepth 100000 in
set_option maxHeartbeats 1000000 in
theorem bclone_none (n c : Nat) (w : World) (own : Tags) (t : Nat) : Calls Try.prog 71 #[.slice none n c] w (BListP w own t []) := by
  go_enter Try.func71, Try.ntmps71
  go_wp2
  go_ret
  exact ⟨_, own, rfl, Tr.refl _ _ _, Row.nil _ _ _ _ _⟩
set_option maxRecDepth 100000 in
set_option maxHeartbeats 1000000 in
theorem bclone_some (a : Addr) (n c : Nat) (l : List Bool) (w : World) (own : Tags) (t : Nat) (hR : ∀ j u, (boolCells l)[j]? = some u → (w.alloc (.cells #[] 4)).cell? (a.add j) = some u) (hn : l.length = n) (hm : n ≤ 1000000) :
    Calls Try.prog 71 #[.slice (some a) n c] w (BListP w own t l) := by
  obtain ⟨i0, hi, hi0, hi1, hi2⟩ := info_parts Try.info4
  have hR1 := Lib.hid hR
  have Hn := Lib.hid hn
  have hown : (w.alloc (.cells #[] 4)).ownsRow 0 4 1 (.slice (some ⟨w.heap.size, 0, none⟩) 0 0) 0 [] := World.ownsRow_made w #[] 0 (Nat.zero_le _) (Nat.zero_le _) (by simp)
  have HO := Lib.hid hown
  clear hR hn hown
  go_enter Try.func71, Try.ntmps71
  go_wp2_with (at_builtin; refine wpList_append_own_at _ rfl _ _ _ rfl 0 4 i0 _ 1 1 Try.underlying53 hi hi0 hi1 hi2 rfl (by omega) _ _ _ rfl HO.out a n c (boolCells l) rfl (by simp [boolCells, Hn.out]) hR1.out (boolCells_one l) (by simp only [maxLen]; omega) (by omega) (Nat.zero_le _) ?_; intro v' w1 hown1 hgrow1 _ hat1)
  go_ret
  have hr0 : Row (w.alloc (.cells #[] 4)) (tagAt own w.heap.size t) t 4 1 (.slice (some ⟨w.heap.size, 0, none⟩) 0 0) 0 [] := ⟨HO.out, fun g hg => by simp [Value.ownBlock] at hg; subst hg; simp [tagAt]⟩
  obtain ⟨own2, tr2, _, r2⟩ := hr0.app (((Tr.refl own t w).alloc (.cells #[] 4)).tag (Nat.le_refl _) (by simp) t) hgrow1 hown1 (hat1.imp id (fun h => ⟨h, (hown1.lt _ h).2⟩))
  exact ⟨v', own2, rfl, tr2, by simpa [Hn.out] using r2⟩
theorem bclone_c (v : Value) (n : Nat) (l : List Bool) (w : World) (own own2 : Tags) (s t : Nat) (h : Row w own2 s 4 1 v n (boolCells l)) (hm : n ≤ 1000000) :
    Calls Try.prog 71 #[v] w (BListP w own t l) := by
  obtain ⟨A, c, rfl, _⟩ := h.form
  have hn : n = l.length := by have := h.1.1; simp [boolCells] at this; omega
  cases A with
  | none =>
    have : l = [] := by
      cases l with
      | nil => rfl
      | cons x r =>
        rcases h.1.2 with ⟨_, h0⟩ | ⟨g, cap, cur, hv, _⟩
        · simp at hn; omega
        · cases hv
    subst this
    exact bclone_none n c w own t
  | some a =>
    refine bclone_some a n c l w own t (fun j u hj => ?_) hn.symm hm
    rcases h.1.2 with ⟨hv, _⟩ | ⟨g, cap, cur, hv, _⟩
    · cases hv
    · injection hv with e1
      injection e1 with e1
      subst e1
      have := h.1.cells (g := g) rfl j u hj
      have hb := World.block_lt_of_cell? w _ this
      rw [World.cell?_alloc_lt _ _ _ hb]
      exact this

/-! ### what a round leaves alone -/
/-- 'Foreign' speaks of cells alone. -/
def FoOK (Fo : World → Nat → Prop) : Prop := ∀ (W W' : World) (row : Option Nat) (k : Nat), Fo W k → W.grownBy W' row → (∀ r, row = some r → ∃ o : Obj, W.heap[r]? = some o ∧ o.isCells = false) → Fo W' k
/-- Foreign blocks of cells lie as they lay, and are foreign still. -/
def KF (Fo : World → Nat → Prop) (W W' : World) : Prop := ∀ (k : Nat) cs e m, W.heap[k]? = some (.cells cs e m) → Fo W k → W'.heap[k]? = W.heap[k]? ∧ Fo W' k
section
variable {Fo : World → Nat → Prop} {A B C : World}
theorem KF.trans (h : KF Fo A B) (k : KF Fo B C) : KF Fo A C := fun j cs e m hj hf => by
  obtain ⟨h1, h2⟩ := h j cs e m hj hf
  obtain ⟨k1, k2⟩ := k j cs e m (h1.trans hj) h2
  exact ⟨k1.trans h1, k2⟩
theorem KF.put (hF : FoOK Fo) (W : World) (l : Nat) (o o' : Obj) (hl : W.heap[l]? = some o) (ho : o.isCells = false) : KF Fo W (W.putObj l o') := fun j cs e m hj hf => by
  have hne : j ≠ l := fun e => by
    subst e
    rw [hj] at hl
    cases hl
    cases ho
  exact ⟨World.putObj_heap_other hne, hF W _ (some l) j hf (grownBy_putObj' W l o') (fun r e => by cases e; exact ⟨o, hl, ho⟩)⟩
theorem grownBy_of_below (h : Below A.heap.size A B) : A.grownBy B none := ⟨h.os, h.tape, h.output, h.size, fun k hk _ => h.block k hk⟩
theorem FoOK.below (hF : FoOK Fo) (h : Below A.heap.size A B) {k : Nat} (hk : Fo A k) : Fo B k := hF A B none k hk (grownBy_of_below h) (fun r e => by cases e)
theorem KF.below (hF : FoOK Fo) (h : Below A.heap.size A B) : KF Fo A B := fun j cs e m hj hf => ⟨h.block j (Array.getElem?_eq_some_iff.1 hj).1, hF.below h hf⟩
end

/-- The iterator's two lists: in foreign blocks. -/
structure Its (Fo : World → Nat → Prop) (W : World) (A B : Option Addr) (ids : List Id) (live : List Bool) : Prop where
  ids : ids ≠ [] → ∃ b off, A = some ⟨b, off, none⟩ ∧ Fo W b ∧ (∃ cs e m, W.heap[b]? = some (.cells cs e m)) ∧ ∀ i (h : i < ids.length), W.cell? ⟨b, off + i * 2, none⟩ = some (.int .i64 ids[i].1) ∧ W.cell? ⟨b, off + i * 2 + 1, none⟩ = some (.int .i64 ids[i].2)
  live : live ≠ [] → ∃ b off, B = some ⟨b, off, none⟩ ∧ Fo W b ∧ (∃ cs e m, W.heap[b]? = some (.cells cs e m)) ∧ ∀ i (h : i < live.length), W.cell? ⟨b, off + i, none⟩ = some (.bool live[i])
theorem Its.keep {Fo : World → Nat → Prop} {W W' : World} {A B : Option Addr} {ids : List Id} {live : List Bool} (h : Its Fo W A B ids live) (k : KF Fo W W') : Its Fo W' A B ids live := by
  refine ⟨fun hl => ?_, fun hl => ?_⟩
  · obtain ⟨b, off, hA, hf, ⟨cs, e, m, hb⟩, hc⟩ := h.ids hl
    obtain ⟨k1, k2⟩ := k b cs e m hb hf
    refine ⟨b, off, hA, k2, ⟨cs, e, m, k1.trans hb⟩, fun i hi => ?_⟩
    rw [World.cell?_of_block (w := W) (a := ⟨b, off + i * 2, none⟩) k1, World.cell?_of_block (w := W) (a := ⟨b, off + i * 2 + 1, none⟩) k1]
    exact hc i hi
  · obtain ⟨b, off, hA, hf, ⟨cs, e, m, hb⟩, hc⟩ := h.live hl
    obtain ⟨k1, k2⟩ := k b cs e m hb hf
    refine ⟨b, off, hA, k2, ⟨cs, e, m, k1.trans hb⟩, fun i hi => ?_⟩
    rw [World.cell?_of_block (w := W) (a := ⟨b, off + i, none⟩) k1]
    exact hc i hi

set_option maxHeartbeats 1000000 in
/-- a.All(): the receiver is boxed; the function value captures the box. -/
theorem all_c (p : Option Addr) (w : World) : Calls Try.prog 44 #[.pointer p] w fun e w' => e = .returned (.func (.func 70) #[] #[.pointer (some ⟨w.heap.size, 0, none⟩)]) ∧ w' = w.alloc (.cells #[.pointer p] 26) := by
  go_enter Try.func44, Try.ntmps44
  go_wp2
  go_ret
  exact ⟨rfl, rfl⟩
end Go.Proofs.Ytgmlhpkhecbkoaa
