/-
  What the law AxisClone keeps. No condition.
-/
import Derived.Test.YtgmlhpkhecbkoaaQ8
import Derived.Test.YtgmlhpkhecbkoaaQ7
import Derived.Test.YtgmlhpkhecbkoaaN9
namespace Go.Proofs.Ytgmlhpkhecbkoaa
open Go.RowKit

structure SC (w : World) (own : Tags) (qa qx qb : Nat) (ids : List Id) (live : List Bool) (L0 : List Id) (la0 : List Bool) (A : Option Addr) (ids0 : List Id) (D : Option Addr) (ds : List Deed) (B : List Id) (wr : World) : Prop where
  s : SE w own qa qx ids live ids live D ds B wr
  b : AxisAt wr own 6 qb L0 la0
  r : IdsR wr own 0 A ids0
section
variable {w wr w' : World} {own own' : Tags} {qa qx qb t : Nat} {ids ids' L0 ids0 : List Id} {live live' la0 : List Bool} {A D : Option Addr} {ds : List Deed} {B : List Id}
theorem SC.next (h : SC w own qa qx qb ids live L0 la0 A ids0 D ds B wr) (k : Below wr.heap.size wr w') : SC w own qa qx qb ids live L0 la0 A ids0 D ds B w' := ⟨h.s.next k, h.b.next k, h.r.keep k.size (Same.below k)⟩
theorem SC.tr (h : SC w own qa qx qb ids live L0 la0 A ids0 D ds B wr) (k : Tr own t wr own' w') (h0 : t ≠ 0) (h1 : 1 ≠ t) (h2 : 2 ≠ t) (h6 : 6 ≠ t) : SC w own' qa qx qb ids live L0 la0 A ids0 D ds B w' :=
  ⟨h.s.tr k h0 h1 h2, h.b.other k h6, h.r.keep k.size (k.toSame (Ne.symm h0))⟩
theorem SC.done (h : SC w own qa qx qb ids live L0 la0 A ids0 D ds B wr) {e : Ending} (k : DoP wr own 1 2 qa qx ids' live' e w') : e = .returned (.bool true) ∧ ∃ own', SC w own' qa qx qb ids' live' L0 la0 A ids0 D ds B w' := by
  obtain ⟨he, own1, w1, own2, t1, t2, a2, x2⟩ := k
  refine ⟨he, own2, ⟨(h.s.clean.tr t1 (by decide)).tr t2 (by decide), a2, x2, (h.s.d.keep t1.size (t1.toSame (by decide))).keep t2.size (t2.toSame (by decide)), fun j z hz => ((h.s.b j z hz).tr t1 (by decide)).tr t2 (by decide)⟩, (h.b.other t1 (by decide)).other t2 (by decide), (h.r.keep t1.size (t1.toSame (by decide))).keep t2.size (t2.toSame (by decide))⟩
end
/-- A new zero axis; a new zero axis of the document's. -/
theorem zero_axis (w : World) (own : Tags) (t : Nat) : Tr own t w (tagAt own w.heap.size t) (w.alloc (.cells #[.slice none 0 0, .slice none 0 0, .map none, .slice none 0 0, .slice none 0 0] 73)) ∧
    AxisAt (w.alloc (.cells #[.slice none 0 0, .slice none 0 0, .map none, .slice none 0 0, .slice none 0 0] 73)) (tagAt own w.heap.size t) t w.heap.size [] [] :=
  ⟨((Tr.refl own t w).alloc _).tag (Nat.le_refl _) (by simp) t, rfl, by simp, List.nodup_nil, by simp, .inr ⟨_, _, by simp [tagAt], Blk.new w 73 _, by simpa [idCells] using Row.nil _ _ t 24 2, by simpa [boolCells] using Row.nil _ _ t 4 1⟩⟩
theorem zero_ref (w : World) (own : Tags) (t : Nat) : Tr own t w (tagAt own w.heap.size t) (w.alloc (.cells #[.slice none 0 0, .slice none 0 0] 55)) ∧ RefAt (w.alloc (.cells #[.slice none 0 0, .slice none 0 0] 55)) (tagAt own w.heap.size t) t w.heap.size [] [] :=
  ⟨((Tr.refl own t w).alloc _).tag (Nat.le_refl _) (by simp) t, rfl, by simp, _, _, by simp [tagAt], Blk.new w 55 _, by simpa [idCells] using Row.nil _ _ t 24 2, by simpa [boolCells] using Row.nil _ _ t 4 1⟩
end Go.Proofs.Ytgmlhpkhecbkoaa
