/-
  Inside a round of a loop over a function: what holds of an operation, a list, a region outside holds there too, where no call is deferred. No condition.
-/
import Derived.Test.YtgmlhpkhecbkoaaH4
import Derived.RangeFuncNested
import Derived.RangeFuncBound
import Derived.RangeFuncCalls
import Derived.RangeFuncLeaves
import Derived.Shelf.Abstract
import Derived.OwnWalkIn
import Derived.TacticsInMore
import Derived.LoopNIn
import Derived.LoopIn
import Derived.OrdersIn
namespace Go.Proofs.Ytgmlhpkhecbkoaa
open Go.RowKit

def noDefer (o : Oper) : Bool := match o.op with | .defer _ => false | _ => true
theorem noDefer_spec {o : Oper} (h : noDefer o = true) : ∀ c, o.op ≠ .defer c := fun c e => by simp [noDefer, e] at h

section
variable {P : Program} {ops : Array Oper} {Q : Exit → Act → World → Prop} {r n : Nat}
theorem rowsIn_round {row : String} {args : Array Value} {w : World} {R : Value → World → Prop} (h : Rows P row args w R) : RowsIn (Fence.wide.inRound r) n P row args w R :=
  fun c cs _ => let ⟨v, w', hr, s⟩ := h c cs; ⟨v, w', hr, stepsIn_wide.2 s⟩
theorem oper_round {o : Oper} {a : Act} {w : World} {K : Act → World → Prop} (hd : noDefer o = true) (h : o.wp P a w K Q) : o.wpIn (Fence.wide.inRound r) n P a w K Q := by
  unfold Oper.wpIn
  refine ⟨fun _ _ => trivial, ?_⟩
  rw [Oper.semAt_eq _ _ _ (noDefer_spec hd)]
  unfold Oper.wp at h
  generalize (execOp a.eval o).run P w = res at *
  cases res with
  | ok x w' =>
    cases x <;> simp only [Oper.upon] at h <;> simp only [Oper.uponIn]
    case value v => exact h
    case skip => exact h
    case defer d => exact h
    case enter f args => exact ⟨fun e => (by cases e), CallsIn.mono (CallsIn.inRound r (callsIn_wide.2 h)) (fun e w'' he => by cases e <;> exact he)⟩
    case row row args => exact ⟨fun e => (by cases e), RowsIn.mono (rowsIn_round h) (fun v w'' he => he)⟩
  | halt x w' => cases x <;> simp only [Oper.upon] at h <;> simp only [Oper.uponIn] <;> exact h
theorem list_round (hno : ¬ LetsOut Q) : ∀ (l : List Oper) (a : Act) (w : World), l.all noDefer = true → wpList P ops Q l a w → wpListIn (Fence.wide.inRound r) n P ops Q l a w
  | [], _, _, _, h => h
  | o :: l, a, w, hd, h => by
    simp only [List.all_cons, Bool.and_eq_true] at hd
    unfold wpList at h
    unfold wpListIn
    split
    · rename_i hw
      rw [if_pos hw] at h
      rcases h with h | h
      · exact Oper.wpIn_mono (fun a w h' => list_round hno l a w hd.2 h') (oper_round hd.1 h)
      · exact absurd h.2 hno
    · rename_i hw
      rw [if_neg hw] at h
      exact ⟨fun _ _ => trivial, list_round hno l _ w hd.2 h⟩
theorem any_round {md : Region.Mode} (hno : ¬ LetsOut Q) (hd : ∀ (i : Nat) (o : Oper), ops[i]? = some o → noDefer o = true) : ∀ (fuel : Nat) (listed : Array Bool) (a : Act) (w : World), wpAny P md ops Q fuel listed a w → wpAnyIn (Fence.wide.inRound r) n P md ops Q fuel listed a w
  | 0, _, _, _, h => h
  | fuel + 1, listed, a, w, h => ⟨h.1, fun i hi => by
      have h1 := h.2 i hi
      unfold wpOp at h1
      unfold wpOpIn
      split
      · rename_i ho
        rw [ho] at h1
        exact any_round hno hd fuel _ a w h1
      · rename_i o ho
        rw [ho] at h1
        simp only at h1
        split
        · rename_i hw
          rw [if_pos hw] at h1
          rcases h1 with h1 | h1
          · exact Oper.wpIn_mono (fun a w h' => any_round hno hd fuel _ a w h') (oper_round (hd i o ho) h1)
          · exact absurd h1.2 hno
        · rename_i hw
          rw [if_neg hw] at h1
          exact ⟨fun _ _ => trivial, any_round hno hd fuel _ _ w h1⟩⟩
/-- A region in one order, in a round. -/
theorem region_list_round {id : Nat} {l : List Oper} {a : Act} {w : World} (hno : ¬ LetsOut Q) (hd : l.all noDefer = true) (h : wpList P l.toArray Q l a w) : (Code.region id l.toArray false).wpIn (Fence.wide.inRound r) n P Q a w :=
  wpIn_region_lit (list_round hno l a w hd h)
/-- A region that draws its order, in a round: these reads first; S holds behind each operation. -/
theorem region_free_round {id : Nat} {a : Act} {w : World} {l : List Oper} (cells : List (Addr × Value)) (order : List Nat) (g : Nat) (hno : ¬ LetsOut Q) (hd : l.all noDefer = true) (hm : P.follows .mixedOrders = true)
    (hg : l.toArray.size = (pick l order).length + g) (hh : order.map (l.toArray[·]?) = (pick l order).map some) (hs : Region.noSelect l.toArray = true) (hB : headsB l.toArray (Array.replicate l.toArray.size false) order = true)
    (hQ : ∀ c (d : Tmp) (v : Value) a w, Q (.panic c) (a.put (some d) v) w → Q (.panic c) a w) (hS : AllCells w.drew cells)
    (h : Nonempty (HeldC cells) → (∀ u : HeldC cells, AllCells u.w cells) → wpQuiet P l.toArray (fun w' => ∃ u : HeldC cells, w' = u.w) (fun a' => wpAnyN P .any l.toArray Q (fun w' => AllCells w' cells) (fun _ => true) g (listedAll (Array.replicate l.toArray.size false) order) a' w.drew) (pick l order) a) : (Code.region id l.toArray true).wpIn (Fence.wide.inRound r) n P Q a w :=
  wpIn_region_any hm (any_round hno (fun i o ho => by
    have : l[i]? = some o := by simpa using ho
    exact List.all_eq_true.1 hd o (List.mem_of_getElem? this)) _ _ _ _ (wpAny_of_N (S := fun w' => AllCells w' cells) (need := fun _ => true) _ _ _ _ (anyN_more order g hg hh hs hB hQ hS h)))
end
end Go.Proofs.Ytgmlhpkhecbkoaa
