/-
  A region that draws its order: reads are taken ahead anew, under the same condition on the world. No condition.
-/
import Derived.Test.YtgmlhpkhecbkoaaH3
namespace Go.Proofs.Ytgmlhpkhecbkoaa
open Go.RowKit

theorem wpAnyN_need {P : Program} {md : Region.Mode} {ops : Array Oper} {Q : Exit → Act → World → Prop} {S : World → Prop} {need : Nat → Bool} : ∀ (fuel : Nat) (listed : Array Bool) (a : Act) (w : World), wpAnyN P md ops Q S (fun _ => true) fuel listed a w → wpAnyN P md ops Q S need fuel listed a w
  | 0, _, _, _, h => h
  | fuel + 1, _, _, _, h => ⟨h.1, fun i hi => wpOp_mono (fun a' w' h' => ⟨fun _ => h'.1 rfl, wpAnyN_need fuel _ a' w' h'.2⟩) (h.2 i hi)⟩
theorem anyN_more {P : Program} {Q : Exit → Act → World → Prop} {a : Act} {w : World} {l : List Oper} {cells : List (Addr × Value)} {need : Nat → Bool} {listed : Array Bool} {f : Nat} (order : List Nat) (g : Nat)
    (hg : f = (pick l order).length + g) (hh : order.map (l.toArray[·]?) = (pick l order).map some) (hs : Region.noSelect l.toArray = true) (hB : headsB l.toArray listed order = true)
    (hQ : ∀ c (d : Tmp) (v : Value) a w, Q (.panic c) (a.put (some d) v) w → Q (.panic c) a w) (hS : AllCells w cells)
    (h : Nonempty (HeldC cells) → (∀ u : HeldC cells, AllCells u.w cells) → wpQuiet P l.toArray (fun w' => ∃ u : HeldC cells, w' = u.w) (fun a' => wpAnyN P .any l.toArray Q (fun w' => AllCells w' cells) (fun _ => true) g (listedAll listed order) a' w) (pick l order) a) :
    wpAnyN P .any l.toArray Q (fun w' => AllCells w' cells) need f listed a w := by
  have e : (fun w' : World => ∃ u : HeldC cells, w' = u.w) = (fun w' => AllCells w' cells) := by
    funext w'
    exact propext ⟨fun ⟨u, hu⟩ => hu ▸ u.ok, fun hw => ⟨⟨w', hw⟩, rfl⟩⟩
  have h' := h ⟨⟨w, hS⟩⟩ (fun u => u.ok)
  rw [e] at h'
  rw [hg]
  exact wpAnyN_need _ _ _ _ (anyN_heads' (P := P) (need := fun _ => true) (g := g) (w := w) hs hS hQ (pick l order) order listed a hh (fun _ _ _ _ _ h => by cases h) hB h')

/-- A region that draws its order: these reads first; S holds behind each operation. -/
theorem region_free {P : Program} {id : Nat} {Q : Exit → Act → World → Prop} {a : Act} {w : World} {l : List Oper} (cells : List (Addr × Value)) (order : List Nat) (g : Nat) (hm : P.follows .mixedOrders = true)
    (hg : l.toArray.size = (pick l order).length + g) (hh : order.map (l.toArray[·]?) = (pick l order).map some) (hs : Region.noSelect l.toArray = true) (hB : headsB l.toArray (Array.replicate l.toArray.size false) order = true)
    (hQ : ∀ c (d : Tmp) (v : Value) a w, Q (.panic c) (a.put (some d) v) w → Q (.panic c) a w) (hS : AllCells w.drew cells)
    (h : Nonempty (HeldC cells) → (∀ u : HeldC cells, AllCells u.w cells) → wpQuiet P l.toArray (fun w' => ∃ u : HeldC cells, w' = u.w) (fun a' => wpAnyN P .any l.toArray Q (fun w' => AllCells w' cells) (fun _ => true) g (listedAll (Array.replicate l.toArray.size false) order) a' w.drew) (pick l order) a) : (Code.region id l.toArray true).wp P Q a w :=
  wp_region_any hm (wpAny_of_N (S := fun w' => AllCells w' cells) (need := fun _ => true) _ _ _ _ (anyN_more order g hg hh hs hB hQ hS h))

/-- These cells hold these values, and lie in blocks whose tags are among T. -/
def Kept (own : Tags) (w : World) (T : List Nat) (cells : List (Addr × Value)) : Prop := AllCells w cells ∧ ∀ p ∈ cells, p.1.block < w.heap.size ∧ own p.1.block ∈ T
theorem AllCells.move {w w' : World} : ∀ {cells : List (Addr × Value)}, AllCells w cells → (∀ p ∈ cells, w'.heap[p.1.block]? = w.heap[p.1.block]?) → AllCells w' cells
  | [], _, _ => trivial
  | (a, v) :: l, h, k => ⟨(World.cell?_of_block (k (a, v) (by simp))).trans h.1, AllCells.move h.2 (fun p hp => k p (by simp [hp]))⟩
section
variable {own own' : Tags} {w w' : World} {T : List Nat} {t : Nat} {cells : List (Addr × Value)}
theorem Kept.tr (h : Kept own w T cells) (k : Tr own t w own' w') (ht : t ∉ T) : Kept own' w' T cells :=
  ⟨h.1.move (fun p hp => k.block _ (h.2 p hp).1 (fun e => ht (e ▸ (h.2 p hp).2))), fun p hp => ⟨Nat.lt_of_lt_of_le (h.2 p hp).1 k.size, by rw [k.same _ (h.2 p hp).1]; exact (h.2 p hp).2⟩⟩
theorem Kept.next (h : Kept own w T cells) (k : Below w.heap.size w w') : Kept own w' T cells :=
  ⟨h.1.move (fun p hp => k.block _ (h.2 p hp).1), fun p hp => ⟨Nat.lt_of_lt_of_le (h.2 p hp).1 k.size, (h.2 p hp).2⟩⟩
theorem Kept.alloc (h : Kept own w T cells) (o : Obj) : Kept own (w.alloc o) T cells := h.next ((Below.refl _ _).alloc (Nat.le_refl _) o)
theorem Kept.drew (h : Kept own w T cells) : Kept own w.drew T cells := h.next ((Below.refl _ _).drew)
theorem Kept.drewN (h : Kept own w T cells) (n : Nat) : Kept own (w.drewN n) T cells := h.next ⟨rfl, rfl, rfl, Nat.le_refl _, fun _ _ => rfl⟩
theorem Kept.nil : Kept own w T [] := ⟨trivial, fun _ h => by cases h⟩
theorem Kept.cons {a : Addr} {v : Value} (h : w.cell? a = some v) (ha : own a.block ∈ T) (k : Kept own w T cells) : Kept own w T ((a, v) :: cells) :=
  ⟨⟨h, k.1⟩, fun p hp => by
    rcases List.mem_cons.1 hp with rfl | hp
    · exact ⟨World.block_lt_of_cell? w _ h, ha⟩
    · exact k.2 p hp⟩
end
end Go.Proofs.Ytgmlhpkhecbkoaa
