/-
  What an axis is in memory; spot, forget. Conditions: the axis lies in memory as AxisAt says.
-/
import Derived.Test.YtgmlhpkhecbkoaaC1
import Derived.StillTailTactics
import Derived.Deep.RegionHeld3
namespace Go.Proofs.Ytgmlhpkhecbkoaa
open Go.RowKit

def Blk (w : World) (g : Nat) (e : TypeId) (cs : Array Value) : Prop := w.heap[g]? = some (.cells cs e (0, 0))
section
variable {w w' : World} {g : Nat} {e : TypeId} {cs : Array Value}
theorem Blk.lt (h : Blk w g e cs) : g < w.heap.size := (Array.getElem?_eq_some_iff.1 h).1
theorem Blk.cell (h : Blk w g e cs) (i : Nat) : w.cell? ⟨g, i, none⟩ = cs[i]? := cell_of_row w g i cs e (0, 0) h
theorem Blk.frozen (h : Blk w g e cs) (i : Nat) : w.frozen? ⟨g, i, none⟩ = false := by
  unfold Blk at h
  simp [World.frozen?, h]
theorem Blk.kept (h : Blk w g e cs) (k : w'.heap[g]? = w.heap[g]?) : Blk w' g e cs := k.trans h
theorem Blk.new (w : World) (e : TypeId) (cs : Array Value) : Blk (w.alloc (.cells cs e)) w.heap.size e cs := heap_alloc_new w _
theorem Blk.alloc (h : Blk w g e cs) (o : Obj) : Blk (w.alloc o) g e cs := (Below.heap_alloc w o g h.lt).trans h
theorem Blk.store (h : Blk w g e cs) (i : Nat) (u : Value) : Blk (w.setCell ⟨g, i, none⟩ u) g e (cs.setIfInBounds i u) := by
  unfold Blk at h ⊢
  simp [World.setCell, Array.getElem?_modify, h]
theorem Blk.far (h : Blk w g e cs) {p : Addr} (hp : g ≠ p.block) (u : Value) : Blk (w.setCell p u) g e cs := (Below.heap_setCell w p u g hp).trans h
end

/-! ### the lists -/
def aliveOf : List Id → List Bool → List Id
  | i :: is, b :: bs => if b then i :: aliveOf is bs else aliveOf is bs
  | _, _ => []
def aheadOf : List Bool → Nat → List Value
  | [], _ => []
  | b :: bs, c => .int .i64 c :: aheadOf bs (if b then c + 1 else c)
def spotsOf : List Id → Nat → List (Id × Value)
  | [], _ => []
  | i :: is, c => (i, .int .i64 c) :: spotsOf is (c + 1)
def boolCells (l : List Bool) : List Value := l.map .bool

/-- The five cells of an axis, and what hangs on them: ready or not. -/
structure AxisIs (w : World) (own : Tags) (t p : Nat) (ids : List Id) (live : List Bool) (vI vL vS vA vV : Value) : Prop where
  tag : own p = t
  blk : Blk w p 73 #[vI, vL, vS, vA, vV]
  rI : Row w own t 24 2 vI ids.length (idCells ids)
  rL : Row w own t 4 1 vL live.length (boolCells live)
structure Made (w : World) (own : Tags) (t : Nat) (ids : List Id) (live : List Bool) (vI : Value) (s g : Nat) (vV : Value) : Prop where
  tagS : own s = t
  map : MapIs w s (spotsOf ids 0)
  tagA : own g = t
  ahead : Blk w g 3 (aheadOf live 0).toArray
  rV : Row w own t 24 2 vV (aliveOf ids live).length (idCells (aliveOf ids live))
  ne : ∀ k, vI.ownBlock = some k → vV.ownBlock ≠ some k
def Ready (w : World) (own : Tags) (t p : Nat) (ids : List Id) (live : List Bool) : Prop :=
  ∃ vI vL s g vV, AxisIs w own t p ids live vI vL (.map (some s)) (.slice (some ⟨g, 0, none⟩) live.length live.length) vV ∧ Made w own t ids live vI s g vV
def Unready (w : World) (own : Tags) (t p : Nat) (ids : List Id) (live : List Bool) : Prop :=
  ∃ vI vL, AxisIs w own t p ids live vI vL (.map none) (.slice none 0 0) (.slice none 0 0)
structure AxisAt (w : World) (own : Tags) (t p : Nat) (ids : List Id) (live : List Bool) : Prop where
  len : live.length = ids.length
  le : ids.length ≤ 1000
  nodup : ids.Nodup
  nz : (0, 0) ∉ ids
  is : Ready w own t p ids live ∨ Unready w own t p ids live

section
variable {w w' : World} {own own' : Tags} {t p : Nat} {ids : List Id} {live : List Bool}
theorem AxisIs.keep {vI vL vS vA vV : Value} (h : AxisIs w own t p ids live vI vL vS vA vV) (k : Same t own w own' w') : AxisIs w' own' t p ids live vI vL vS vA vV :=
  ⟨(k p h.blk.lt h.tag).2, h.blk.kept (k p h.blk.lt h.tag).1, h.rI.keep k, h.rL.keep k⟩
theorem Made.keep {vI vV : Value} {s g : Nat} (h : Made w own t ids live vI s g vV) (k : Same t own w own' w') : Made w' own' t ids live vI s g vV :=
  ⟨(k s h.map.lt h.tagS).2, h.map.kept (k s h.map.lt h.tagS).1, (k g h.ahead.lt h.tagA).2, h.ahead.kept (k g h.ahead.lt h.tagA).1, h.rV.keep k, h.ne⟩
theorem Ready.keep (h : Ready w own t p ids live) (k : Same t own w own' w') : Ready w' own' t p ids live := by
  obtain ⟨vI, vL, s, g, vV, h1, h2⟩ := h
  exact ⟨vI, vL, s, g, vV, h1.keep k, h2.keep k⟩
theorem Unready.keep (h : Unready w own t p ids live) (k : Same t own w own' w') : Unready w' own' t p ids live := by
  obtain ⟨vI, vL, h1⟩ := h
  exact ⟨vI, vL, h1.keep k⟩
theorem AxisAt.keep (h : AxisAt w own t p ids live) (k : Same t own w own' w') : AxisAt w' own' t p ids live :=
  ⟨h.len, h.le, h.nodup, h.nz, h.is.imp (·.keep k) (·.keep k)⟩
end

theorem zero3 (w : World) : (zeroValue 3).run Try.prog w = .ok (.int .i64 0) w := by kernel_rfl
theorem zero4 (w : World) : (zeroValue 4).run Try.prog w = .ok (.bool false) w := by kernel_rfl

theorem getKV_spots (k : Id) (ids : List Id) (c : Nat) : getKV k (spotsOf ids c) = if k ∈ ids then some (.int .i64 ((c + ids.idxOf k : Nat) : Int)) else none := by
  induction ids generalizing c with
  | nil => simp [spotsOf, getKV]
  | cons x r ih =>
    simp only [spotsOf, getKV]
    by_cases hx : x = k
    · subst hx; simp
    · have hx' : k ≠ x := fun e => hx e.symm
      have : (x == k) = false := by simpa using hx
      rw [if_neg hx, ih]
      simp only [List.mem_cons, hx', false_or, List.idxOf_cons, this, cond_false]
      split
      · congr 3; omega
      · rfl

theorem idxI_spots (k : Id) (ids : List Id) : (idxI k ids = -1 ∧ getKV k (spotsOf ids 0) = none) ∨ (∃ i : Nat, idxI k ids = i ∧ getKV k (spotsOf ids 0) = some (.int .i64 i)) := by
  rw [getKV_spots]
  unfold idxI
  by_cases h : k ∈ ids
  · right; exact ⟨ids.idxOf k, by rw [if_pos h], by rw [if_pos h]; simp⟩
  · left; exact ⟨by rw [if_neg h], by rw [if_neg h]⟩

set_option maxRecDepth 100000 in
set_option maxHeartbeats 1000000 in
theorem spot_c (w : World) (own : Tags) (t p : Nat) (ids : List Id) (live : List Bool) (x y : Int) (h : AxisAt w own t p ids live) :
    Calls Try.prog 60 #[.pointer (some ⟨p, 0, none⟩), .agg #[.int .i64 x, .int .i64 y]] w fun e w' => e = .returned (.int .i64 (idxI (x, y) ids)) ∧ Below w.heap.size w w' := by
  rcases h.is with h1 | h1
  · obtain ⟨vI, vL, s, g, vV, a, m⟩ := h1
    have c2 := a.blk.cell 2
    have hp := a.blk.lt
    have hs := m.map.lt
    have hlk := fun (nq : Nat) (o : Obj) => MapIs.look (w := (w.alloc o).drewN nq) (m.map.kept (Below.heap_alloc w o s hs)) Try.underlying70 (zero3 _) (x, y) true
    simp only [idv, if_true] at hlk
    simp at c2
    rcases idxI_spots (x, y) ids with ⟨e1, e2⟩ | ⟨i, e1, e2⟩
    · simp only [e2, Option.getD_none, Option.isSome_none] at hlk
      have E1 := Lib.hid e1
      clear e1 e2 a m h
      go_enter Try.func60, Try.ntmps60
      go_wp2
      go_quiet (fail)
      go_wp2
      go_ret
      exact ⟨ret_int E1.out.symm, ⟨rfl, rfl, rfl, by simp, fun k hk => Below.heap_alloc w _ k hk⟩⟩
    · simp only [e2, Option.getD_some, Option.isSome_some] at hlk
      have E1 := Lib.hid e1
      clear e1 e2 a m h
      go_enter Try.func60, Try.ntmps60
      go_wp2
      go_quiet (fail)
      go_wp2
      go_ret
      exact ⟨ret_int E1.out.symm, ⟨rfl, rfl, rfl, by simp, fun k hk => Below.heap_alloc w _ k hk⟩⟩
  · obtain ⟨vI, vL, a⟩ := h1
    obtain ⟨A, c, rfl, hm⟩ := a.rI.form
    have c2 := a.blk.cell 2
    have c0 := a.blk.cell 0
    have hp := a.blk.lt
    have hR := a.rI.toIdsR.2
    simp at c2 c0
    have hcall := fun (nq : Nat) (o : Obj) => index_c A ids.length c x y ids ((w.alloc o).drewN nq) own t (hR.keep (by simp) ((Same.alloc o).trans (by simp) (Same.drewN nq))) rfl hm
    have HC := Lib.hid hcall
    clear hcall a h hR hm
    go_enter Try.func60, Try.ntmps60
    go_wp2
    refine region_tail 5 (by kernel_rfl) (by kernel_rfl) ?_
    simp only [List.take_succ_cons, List.take_zero, List.drop_succ_cons, List.drop_zero]
    repeat (go_big_quiet_step (fail))
    refine wpQuiet_nil ?_
    go_wp2_with (go_at_call 79; refine (HC.out 1 _).mono ?_; rintro e w1 ⟨rfl, hB⟩)
    go_ret
    refine ⟨rfl, ⟨hB.os, hB.tape, hB.output, Nat.le_trans (by simp) hB.size, fun k hk => (hB.block k (by simp; omega)).trans (Below.heap_alloc w _ k hk)⟩⟩
end Go.Proofs.Ytgmlhpkhecbkoaa
