/-
  (*Axis).Clone: what its loop keeps. No condition.
-/
import Derived.Test.YtgmlhpkhecbkoaaQ4
import Derived.Test.YtgmlhpkhecbkoaaJ1
namespace Go.Proofs.Ytgmlhpkhecbkoaa
open Go.RowKit

theorem region_picked_round {P : Program} {Q : Exit → Act → World → Prop} {r n : Nat} {id : Nat} {a : Act} {w : World} {l : List Oper} (cells : List (Addr × Value)) (order need : List Nat) (g : Nat) (hno : ¬ LetsOut Q) (hd : l.all noDefer = true) (hm : P.follows .mixedOrders = true)
    (hg : l.toArray.size = (pick l order).length + g) (hh : order.map (l.toArray[·]?) = (pick l order).map some) (hs : Region.noSelect l.toArray = true) (hN : needB l.toArray need order = true) (hB : headsB l.toArray (Array.replicate l.toArray.size false) order = true)
    (hQ : ∀ c (d : Tmp) (v : Value) a w, Q (.panic c) (a.put (some d) v) w → Q (.panic c) a w) (hS : AllCells w.drew cells)
    (h : Nonempty (HeldC cells) → (∀ u : HeldC cells, AllCells u.w cells) → wpQuiet P l.toArray (fun w' => ∃ u : HeldC cells, w' = u.w) (fun a' => wpAnyN P .any l.toArray Q (fun w' => AllCells w' cells) (fun j => need.contains j) g (listedAll (Array.replicate l.toArray.size false) order) a' w.drew) (pick l order) a) : (Code.region id l.toArray true).wpIn (Fence.wide.inRound r) n P Q a w := by
  have e : (fun w' : World => ∃ u : HeldC cells, w' = u.w) = (fun w' => AllCells w' cells) := by
    funext w'
    exact propext ⟨fun ⟨u, hu⟩ => hu ▸ u.ok, fun hw => ⟨⟨w', hw⟩, rfl⟩⟩
  have h' := h ⟨⟨w.drew, hS⟩⟩ (fun u => u.ok)
  rw [e] at h'
  have key := anyN_heads' (P := P) (need := fun j => need.contains j) (g := g) (w := w.drew) hs hS hQ (pick l order) order (Array.replicate l.toArray.size false) a hh (needB_spec hN) hB h'
  refine wpIn_region_any hm (any_round hno (fun i o ho => by
    have : l[i]? = some o := by simpa using ho
    exact List.all_eq_true.1 hd o (List.mem_of_getElem? this)) _ _ _ _ (wpAny_of_N (S := fun w' => AllCells w' cells) (need := fun j => need.contains j) _ _ _ _ ?_))
  rw [hg]
  rw [hg] at key
  exact key

theorem Row.own {W W' : World} {own : Tags} {t : Nat} {e : TypeId} {size : Nat} {v : Value} {n : Nat} {xs : List Value} {row : Option Nat} (h : Row W own t e size v n xs) (hg : W.grownBy W' row) (hr : ∀ r, row = some r → ∃ o : Obj, W.heap[r]? = some o ∧ o.isCells = false) : Row W' own t e size v n xs :=
  h.kept fun k hlt hk ho => by
    obtain ⟨cs, hb⟩ := h.blk hk
    exact ⟨(hb.own hg hr).trans hb.symm, ho⟩

theorem keeps_app {W W' : World} {own : Tags} {t : Nat} {e : TypeId} {size : Nat} {v : Value} {n : Nat} {xs : List Value} (h : Row W own t e size v n xs) (hg : W.grownBy W' v.ownBlock) : KeepsOthers W W' :=
  KeepsOthers.of_grownBy hg (fun j o hj ho => by
    obtain ⟨cs, hb⟩ := h.blk hj
    rw [show W.heap[j]? = _ from hb] at ho
    cases ho
    rfl)

/-- The clone so far: the axis q, its box B; nothing but what is tagged t was turned. -/
structure CI (w : World) (own0 : Tags) (t B q : Nat) (ids : List Id) (live : List Bool) (own : Tags) (vI vL : Value) (W : World) : Prop where
  tr : Tr own0 t w own W
  box : Blk W B 26 #[.pointer (some ⟨q, 0, none⟩)]
  ax : AxisIs W own t q ids live vI vL (.map none) (.slice none 0 0) (.slice none 0 0)
def Fo43 (B q : Nat) (W : World) (k : Nat) : Prop := k ≠ B ∧ k ≠ q ∧ ∃ vI vL, Blk W q 73 #[vI, vL, .map none, .slice none 0 0, .slice none 0 0] ∧ vI.ownBlock ≠ some k ∧ vL.ownBlock ≠ some k
theorem fo43_ok (B q : Nat) : FoOK (Fo43 B q) := fun _ _ _ _ ⟨h1, h2, vI, vL, h3, h4, h5⟩ hg hr => ⟨h1, h2, vI, vL, h3.own hg hr, h4, h5⟩
section
variable {w W W1 : World} {own0 own : Tags} {t B q : Nat} {ids : List Id} {live : List Bool} {vI vL : Value}
theorem CI.next (h : CI w own0 t B q ids live own vI vL W) (k : Below W.heap.size W W1) : CI w own0 t B q ids live own vI vL W1 :=
  ⟨h.tr.below k, h.box.kept (k.block B h.box.lt), h.ax.keep (Same.below k)⟩
theorem CI.grow (h : CI w own0 t B q ids live own vI vL W) {row : Option Nat} {S : Nat} (hS : w.heap.size ≤ S) (hg : W.grownBy W1 row) (hr : ∀ r, row = some r → S ≤ r ∧ ∃ o : Obj, W.heap[r]? = some o ∧ o.isCells = false) : CI w own0 t B q ids live own vI vL W1 :=
  ⟨h.tr.grown hg (fun k e => .inr (Nat.le_trans hS (hr k e).1)), h.box.own hg (fun r e => (hr r e).2), h.ax.tag, h.ax.blk.own hg (fun r e => (hr r e).2), h.ax.rI.own hg (fun r e => (hr r e).2), h.ax.rL.own hg (fun r e => (hr r e).2)⟩
theorem CI.putI {ids' : List Id} {g c : Nat} (h : CI w own0 t B q ids live own vI vL W) (hg : W.grownBy W1 vI.ownBlock) (hr : W1.ownsRow 0 24 2 (.slice (some ⟨g, 0, none⟩) ids'.length c) ids'.length (idCells ids')) (hat : vI.ownBlock = some g ∨ (W.heap.size ≤ g ∧ g < W1.heap.size)) :
    Blk W1 q 73 #[vI, vL, .map none, .slice none 0 0, .slice none 0 0] ∧ Blk W1 B 26 #[.pointer (some ⟨q, 0, none⟩)] ∧ KF (Fo43 B q) W (W1.setCell ⟨q, 0, none⟩ (.slice (some ⟨g, 0, none⟩) ids'.length c)) ∧ ∃ own1, CI w own0 t B q ids' live own1 (.slice (some ⟨g, 0, none⟩) ids'.length c) vL (W1.setCell ⟨q, 0, none⟩ (.slice (some ⟨g, 0, none⟩) ids'.length c)) := by
  obtain ⟨b1, own1, tr1, a1⟩ := h.ax.setI hg hr hat
  have b2 := h.box.beside h.ax.rI hg (by decide)
  refine ⟨b1, b2, fun k cs e m hk hf => ?_, own1, h.tr.trans tr1, b2.far (b2.ne_type b1 (by decide)) _, a1⟩
  obtain ⟨f1, f2, uI, uL, f3, f4, f5⟩ := hf
  have he : uI = vI ∧ uL = vL := by
    have := f3.symm.trans h.ax.blk
    simpa using this
  obtain ⟨rfl, rfl⟩ := he
  have hlt : k < W.heap.size := (Array.getElem?_eq_some_iff.1 hk).1
  refine ⟨(Below.heap_setCell W1 _ _ k f2).trans (hg.block k hlt (fun e => f4 e.symm)), f1, f2, _, _, a1.blk, ?_, f5⟩
  rcases hat with hat | hat
  · rw [hat] at f4; exact f4
  · simp [Value.ownBlock]; omega
theorem CI.putL {live' : List Bool} {g c : Nat} (h : CI w own0 t B q ids live own vI vL W) (hg : W.grownBy W1 vL.ownBlock) (hr : W1.ownsRow 0 4 1 (.slice (some ⟨g, 0, none⟩) live'.length c) live'.length (boolCells live')) (hat : vL.ownBlock = some g ∨ (W.heap.size ≤ g ∧ g < W1.heap.size)) :
    Blk W1 q 73 #[vI, vL, .map none, .slice none 0 0, .slice none 0 0] ∧ Blk W1 B 26 #[.pointer (some ⟨q, 0, none⟩)] ∧ KF (Fo43 B q) W (W1.setCell ⟨q, 1, none⟩ (.slice (some ⟨g, 0, none⟩) live'.length c)) ∧ ∃ own1, CI w own0 t B q ids live' own1 vI (.slice (some ⟨g, 0, none⟩) live'.length c) (W1.setCell ⟨q, 1, none⟩ (.slice (some ⟨g, 0, none⟩) live'.length c)) := by
  obtain ⟨b1, own1, tr1, a1⟩ := h.ax.setL hg hr hat
  have b2 := h.box.beside h.ax.rL hg (by decide)
  refine ⟨b1, b2, fun k cs e m hk hf => ?_, own1, h.tr.trans tr1, b2.far (b2.ne_type b1 (by decide)) _, a1⟩
  obtain ⟨f1, f2, uI, uL, f3, f4, f5⟩ := hf
  have he : uI = vI ∧ uL = vL := by
    have := f3.symm.trans h.ax.blk
    simpa using this
  obtain ⟨rfl, rfl⟩ := he
  have hlt : k < W.heap.size := (Array.getElem?_eq_some_iff.1 hk).1
  refine ⟨(Below.heap_setCell W1 _ _ k f2).trans (hg.block k hlt (fun e => f5 e.symm)), f1, f2, _, _, a1.blk, f4, ?_⟩
  rcases hat with hat | hat
  · rw [hat] at f5; exact f5
  · simp [Value.ownBlock]; omega
/-- A block that is new is foreign. -/
theorem CI.foreign (h : CI w own0 t B q ids live own vI vL W) {k : Nat} (hk : W.heap.size ≤ k) (W1 : World) (hb : Below W.heap.size W W1) : Fo43 B q W1 k := by
  have hB := h.box.lt
  have hq := h.ax.blk.lt
  refine ⟨by omega, by omega, vI, vL, h.ax.blk.kept (hb.block q hq), fun e => ?_, fun e => ?_⟩
  · have := (h.ax.rI.1.lt k e).2; omega
  · have := (h.ax.rL.1.lt k e).2; omega
end
end Go.Proofs.Ytgmlhpkhecbkoaa
