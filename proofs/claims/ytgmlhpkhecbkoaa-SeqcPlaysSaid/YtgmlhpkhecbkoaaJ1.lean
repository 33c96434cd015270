/-
  (*Axis).Insert. Condition: the axis lies in memory as AxisAt says.
-/
import Derived.Test.YtgmlhpkhecbkoaaI2
import Derived.Test.YtgmlhpkhecbkoaaI3
namespace Go.Proofs.Ytgmlhpkhecbkoaa
open Go.RowKit

theorem Row.app2 {w0 w w1 : World} {own0 own : Tags} {t : Nat} {e : TypeId} {size : Nat} {v : Value} {n n' g c' : Nat} {xs ys : List Value} (tr : Tr own0 t w0 own w) (h : Row w own t e size v n xs) (hg : w.grownBy w1 v.ownBlock) (hr : w1.ownsRow 0 e size (.slice (some ⟨g, 0, none⟩) n' c') n' ys)
    (hat : v.ownBlock = some g ∨ (w.heap.size ≤ g ∧ g < w1.heap.size)) :
    ∃ own2, Tr own0 t w0 own2 w1 ∧ (∀ k, k < w.heap.size → own2 k = own k) ∧ Row w1 own2 t e size (.slice (some ⟨g, 0, none⟩) n' c') n' ys := by
  have tr1 : Tr own0 t w0 own w1 := tr.grown hg (fun k e => .inl (h.2 k e))
  rcases hat with hat | ⟨hat, hlt⟩
  · exact ⟨own, tr1, fun _ _ => rfl, hr, fun k hk => h.2 k (by rw [hat]; simpa [Value.ownBlock] using hk)⟩
  · refine ⟨tagAt own g t, tr1.tag (Nat.le_trans tr.size hat) hlt t, fun k hk => by unfold tagAt; rw [if_neg (by omega)], hr, fun k hk => ?_⟩
    have : g = k := by simpa [Value.ownBlock] using hk
    simp [tagAt, this]

theorem AxisIs.setI {w w1 : World} {own : Tags} {t p g c : Nat} {ids ids' : List Id} {live : List Bool} {vI vL vS vA vV : Value} (a : AxisIs w own t p ids live vI vL vS vA vV) (hg : w.grownBy w1 vI.ownBlock)
    (hr : w1.ownsRow 0 24 2 (.slice (some ⟨g, 0, none⟩) ids'.length c) ids'.length (idCells ids')) (hat : vI.ownBlock = some g ∨ (w.heap.size ≤ g ∧ g < w1.heap.size)) :
    Blk w1 p 73 #[vI, vL, vS, vA, vV] ∧ ∃ own1, Tr own t w own1 (w1.setCell ⟨p, 0, none⟩ (.slice (some ⟨g, 0, none⟩) ids'.length c)) ∧ AxisIs (w1.setCell ⟨p, 0, none⟩ (.slice (some ⟨g, 0, none⟩) ids'.length c)) own1 t p ids' live (.slice (some ⟨g, 0, none⟩) ids'.length c) vL vS vA vV := by
  obtain ⟨own1, tr1, hs, r1⟩ := a.rI.app2 (Tr.refl own t w) hg hr hat
  have b1 := a.blk.beside a.rI hg (by decide)
  have tp : own1 p = t := by rw [hs p a.blk.lt]; exact a.tag
  exact ⟨b1, own1, tr1.setCell (.inl tp) _, tp, b1.store 0 _, r1.stored _ (fun _ _ h _ => h.ne_type b1 (by decide)), (a.rL.beside a.rI hg hs (by decide)).stored _ (fun _ _ h _ => h.ne_type b1 (by decide))⟩
theorem AxisIs.setL {w w1 : World} {own : Tags} {t p g c : Nat} {ids : List Id} {live live' : List Bool} {vI vL vS vA vV : Value} (a : AxisIs w own t p ids live vI vL vS vA vV) (hg : w.grownBy w1 vL.ownBlock)
    (hr : w1.ownsRow 0 4 1 (.slice (some ⟨g, 0, none⟩) live'.length c) live'.length (boolCells live')) (hat : vL.ownBlock = some g ∨ (w.heap.size ≤ g ∧ g < w1.heap.size)) :
    Blk w1 p 73 #[vI, vL, vS, vA, vV] ∧ ∃ own1, Tr own t w own1 (w1.setCell ⟨p, 1, none⟩ (.slice (some ⟨g, 0, none⟩) live'.length c)) ∧ AxisIs (w1.setCell ⟨p, 1, none⟩ (.slice (some ⟨g, 0, none⟩) live'.length c)) own1 t p ids live' vI (.slice (some ⟨g, 0, none⟩) live'.length c) vS vA vV := by
  obtain ⟨own1, tr1, hs, r1⟩ := a.rL.app2 (Tr.refl own t w) hg hr hat
  have b1 := a.blk.beside a.rL hg (by decide)
  have tp : own1 p = t := by rw [hs p a.blk.lt]; exact a.tag
  exact ⟨b1, own1, tr1.setCell (.inl tp) _, tp, b1.store 1 _, (a.rI.beside a.rL hg hs (by decide)).stored _ (fun _ _ h _ => h.ne_type b1 (by decide)), r1.stored _ (fun _ _ h _ => h.ne_type b1 (by decide))⟩

def putAt {α : Type} (l : List α) (i : Nat) (z : α) : List α := l.take i ++ [z] ++ l.drop i
theorem length_putAt {α : Type} (l : List α) (i : Nat) (z : α) : (putAt l i z).length = l.length + 1 := by simp [putAt]; omega
theorem idCells_take (l : List Id) (i : Nat) : idCells (l.take i) = (idCells l).take (i * 2) := by
  induction l generalizing i with
  | nil => simp [idCells]
  | cons x l ih =>
    cases i with
    | zero => simp [idCells]
    | succ i => simp only [List.take_succ_cons, idCells, ih, show (i + 1) * 2 = i * 2 + 1 + 1 by omega]
theorem idCells_drop (l : List Id) (i : Nat) : idCells (l.drop i) = (idCells l).drop (i * 2) := by
  induction l generalizing i with
  | nil => simp [idCells]
  | cons x l ih =>
    cases i with
    | zero => simp [idCells]
    | succ i => simp only [List.drop_succ_cons, idCells, ih, show (i + 1) * 2 = i * 2 + 1 + 1 by omega]
theorem idCells_putAt (l : List Id) (i : Nat) (z : Id) : idCells (putAt l i z) = (idCells l).take (i * 2) ++ [.int .i64 z.1, .int .i64 z.2] ++ (idCells l).drop (i * 2) := by
  unfold putAt; rw [idCells_append, idCells_append, idCells_take, idCells_drop]; rfl
theorem boolCells_putAt (l : List Bool) (i : Nat) (b : Bool) : boolCells (putAt l i b) = (boolCells l).take i ++ [.bool b] ++ (boolCells l).drop i := by
  unfold putAt boolCells; simp [List.map_take, List.map_drop]
theorem boolCells_one (l : List Bool) : ∀ u ∈ boolCells l, u.oneCell' = true := by
  intro u hu
  obtain ⟨b, _, rfl⟩ := List.mem_map.1 hu
  rfl

def insAt (ids : List Id) (behind : Id) : Nat := if behind = (0, 0) then 0 else ids.idxOf behind + 1
def insR (ids : List Id) (behind z : Id) : Int :=
  if z = (0, 0) then 1 else if z ∈ ids then 4 else if behind ≠ (0, 0) ∧ behind ∉ ids then 3 else if 1000 ≤ ids.length then 5 else 0
def insIds (ids : List Id) (behind z : Id) : List Id := if insR ids behind z = 0 then putAt ids (insAt ids behind) z else ids
def insLive (ids : List Id) (live : List Bool) (behind z : Id) : List Bool := if insR ids behind z = 0 then putAt live (insAt ids behind) true else live

/-- The last part of Insert: the place is known. -/
theorem AxisAt.put {w' : World} {own own' : Tags} {w : World} {t p : Nat} {ids : List Id} {live : List Bool} {z : Id} {i : Nat} (h : AxisAt w own t p ids live) (hz : z ≠ (0, 0)) (hn : z ∉ ids) (hl : ids.length < 1000)
    (u : Unready w' own' t p (putAt ids i z) (putAt live i true)) : AxisAt w' own' t p (putAt ids i z) (putAt live i true) := by
  refine ⟨by rw [length_putAt, length_putAt, h.len], by rw [length_putAt]; omega, ?_, ?_, .inr u⟩
  · have hp : (putAt ids i z).Perm (z :: ids) := by
      unfold putAt
      have h1 : (ids.take i ++ [z] ++ ids.drop i).Perm (z :: (ids.take i ++ ids.drop i)) := by
        rw [List.append_assoc]; exact List.perm_middle
      rwa [List.take_append_drop] at h1
    exact hp.symm.nodup (List.nodup_cons.2 ⟨hn, h.nodup⟩)
  · unfold putAt
    intro hm
    simp only [List.mem_append, List.mem_singleton] at hm
    rcases hm with (hm | hm) | hm
    · exact h.nz (List.mem_of_mem_take hm)
    · exact hz hm.symm
    · exact h.nz (List.mem_of_mem_drop hm)
end Go.Proofs.Ytgmlhpkhecbkoaa
