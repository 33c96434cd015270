/-
  A region that draws its order, in two halves: behind the first half, reads are taken ahead anew. No condition.
-/
import Derived.Test.YtgmlhpkhecbkoaaH2
namespace Go.Proofs.Ytgmlhpkhecbkoaa
open Go.RowKit

section
variable {P : Program} {ops : Array Oper} {Q : Exit → Act → World → Prop} {md : Region.Mode}
theorem wpAnyN_of_any {S : World → Prop} {need : Nat → Bool} (hS : ∀ w, S w) : ∀ (fuel : Nat) (listed : Array Bool) (a : Act) (w : World), wpAny P md ops Q fuel listed a w → wpAnyN P md ops Q S need fuel listed a w
  | 0, _, _, _, h => h
  | fuel + 1, _, _, _, h => ⟨h.1, fun i hi => wpOp_mono (fun a' w' h' => ⟨fun _ => hS w', wpAnyN_of_any hS fuel _ a' w' h'⟩) (h.2 i hi)⟩
end
theorem anyN_again {P : Program} {Q : Exit → Act → World → Prop} {a : Act} {w : World} {l : List Oper} {need0 : Nat → Bool} {listed : Array Bool} {f : Nat} (cells : List (Addr × Value)) (order need : List Nat) (g : Nat)
    (hg : f = (pick l order).length + g) (hh : order.map (l.toArray[·]?) = (pick l order).map some) (hs : Region.noSelect l.toArray = true) (hN : needB l.toArray need order = true) (hB : headsB l.toArray listed order = true)
    (hQ : ∀ c (d : Tmp) (v : Value) a w, Q (.panic c) (a.put (some d) v) w → Q (.panic c) a w) (hS : AllCells w cells)
    (h : Nonempty (HeldC cells) → (∀ u : HeldC cells, AllCells u.w cells) → wpQuiet P l.toArray (fun w' => ∃ u : HeldC cells, w' = u.w) (fun a' => wpAnyN P .any l.toArray Q (fun w' => AllCells w' cells) (fun j => need.contains j) g (listedAll listed order) a' w) (pick l order) a) :
    wpAnyN P .any l.toArray Q (fun w' => AllCells w' []) need0 f listed a w := by
  have e : (fun w' : World => ∃ u : HeldC cells, w' = u.w) = (fun w' => AllCells w' cells) := by
    funext w'
    exact propext ⟨fun ⟨u, hu⟩ => hu ▸ u.ok, fun hw => ⟨⟨w', hw⟩, rfl⟩⟩
  have h' := h ⟨⟨w, hS⟩⟩ (fun u => u.ok)
  rw [e] at h'
  refine wpAnyN_of_any (fun _ => trivial) _ _ _ _ (wpAny_of_N (S := fun w' => AllCells w' cells) (need := fun j => need.contains j) _ _ _ _ ?_)
  rw [hg]
  exact anyN_heads' (P := P) (need := fun j => need.contains j) (g := g) (w := w) hs hS hQ (pick l order) order listed a hh (needB_spec hN) hB h'
end Go.Proofs.Ytgmlhpkhecbkoaa
