/-
  Inside a round of a loop over a function; what a round leaves alone. No condition.
-/
import Derived.Test.YtdmbppgogdkpdaaGreatDoorA0
import Derived.RangeFuncNested
import Derived.RangeFuncBound
import Derived.RangeFuncCalls
import Derived.RangeFuncLeaves
import Derived.Shelf.Abstract
import Derived.OwnWalkIn
import Derived.TacticsInMore
import Derived.LoopNIn
import Derived.LoopIn
import Derived.OrdersIn
import Derived.Stop.RegionWithIn
namespace Go.Proofs.YtdmbppgogdkpdaaGreatDoor
open Go.RowKit Go.Shelf
theorem Blk.ne_type {w : World} {g g' : Nat} {e e' : TypeId} {cs cs' : Array Value} (h : Blk w g e cs) (h' : Blk w g' e' cs') (hne : e ≠ e') : g ≠ g' := by
  rintro rfl
  unfold Blk at h h'
  rw [h] at h'
  injection h' with h'
  injection h' with _ ht
  exact hne ht
def noDefer (o : Oper) : Bool := match o.op with | .defer _ => false | _ => true
theorem noDefer_spec {o : Oper} (h : noDefer o = true) : ∀ c, o.op ≠ .defer c := fun c e => by simp [noDefer, e] at h

section
variable {P : Program} {ops : Array Oper} {Q : Exit → Act → World → Prop} {r n : Nat}
theorem rowsIn_round {row : String} {args : Array Value} {w : World} {R : Value → World → Prop} (h : Rows P row args w R) : RowsIn (Fence.wide.inRound r) n P row args w R :=
  fun c cs _ => let ⟨v, w', hr, s⟩ := h c cs; ⟨v, w', hr, stepsIn_wide.2 s⟩
theorem oper_round {o : Oper} {a : Act} {w : World} {K : Act → World → Prop} (hd : noDefer o = true) (h : o.wp P a w K Q) : o.wpIn (Fence.wide.inRound r) n P a w K Q := by
  unfold Oper.wpIn
  refine ⟨fun _ _ => trivial, ?_⟩
  rw [Oper.semAt_eq _ _ _ (noDefer_spec hd)]
  unfold Oper.wp at h
  generalize (execOp a.eval o).run P w = res at *
  cases res with
  | ok x w' =>
    cases x <;> simp only [Oper.upon] at h <;> simp only [Oper.uponIn]
    case value v => exact h
    case skip => exact h
    case defer d => exact h
    case enter f args => exact ⟨fun e => (by cases e), CallsIn.mono (CallsIn.inRound r (callsIn_wide.2 h)) (fun e w'' he => by cases e <;> exact he)⟩
    case row row args => exact ⟨fun e => (by cases e), RowsIn.mono (rowsIn_round h) (fun v w'' he => he)⟩
  | halt x w' => cases x <;> simp only [Oper.upon] at h <;> simp only [Oper.uponIn] <;> exact h
theorem list_round (hno : ¬ LetsOut Q) : ∀ (l : List Oper) (a : Act) (w : World), l.all noDefer = true → wpList P ops Q l a w → wpListIn (Fence.wide.inRound r) n P ops Q l a w
  | [], _, _, _, h => h
  | o :: l, a, w, hd, h => by
    simp only [List.all_cons, Bool.and_eq_true] at hd
    unfold wpList at h
    unfold wpListIn
    split
    · rename_i hw
      rw [if_pos hw] at h
      rcases h with h | h
      · exact Oper.wpIn_mono (fun a w h' => list_round hno l a w hd.2 h') (oper_round hd.1 h)
      · exact absurd h.2 hno
    · rename_i hw
      rw [if_neg hw] at h
      exact ⟨fun _ _ => trivial, list_round hno l _ w hd.2 h⟩
theorem any_round {md : Region.Mode} (hno : ¬ LetsOut Q) (hd : ∀ (i : Nat) (o : Oper), ops[i]? = some o → noDefer o = true) : ∀ (fuel : Nat) (listed : Array Bool) (a : Act) (w : World), wpAny P md ops Q fuel listed a w → wpAnyIn (Fence.wide.inRound r) n P md ops Q fuel listed a w
  | 0, _, _, _, h => h
  | fuel + 1, listed, a, w, h => ⟨h.1, fun i hi => by
      have h1 := h.2 i hi
      unfold wpOp at h1
      unfold wpOpIn
      split
      · rename_i ho
        rw [ho] at h1
        exact any_round hno hd fuel _ a w h1
      · rename_i o ho
        rw [ho] at h1
        simp only at h1
        split
        · rename_i hw
          rw [if_pos hw] at h1
          rcases h1 with h1 | h1
          · exact Oper.wpIn_mono (fun a w h' => any_round hno hd fuel _ a w h') (oper_round (hd i o ho) h1)
          · exact absurd h1.2 hno
        · rename_i hw
          rw [if_neg hw] at h1
          exact ⟨fun _ _ => trivial, any_round hno hd fuel _ _ w h1⟩⟩
/-- A region in one order, in a round. -/
theorem region_list_round {id : Nat} {l : List Oper} {a : Act} {w : World} (hno : ¬ LetsOut Q) (hd : l.all noDefer = true) (h : wpList P l.toArray Q l a w) : (Code.region id l.toArray false).wpIn (Fence.wide.inRound r) n P Q a w :=
  wpIn_region_lit (list_round hno l a w hd h)
/-- A region that draws its order, in a round: these reads first; S holds behind each operation. -/
theorem region_free_round {id : Nat} {a : Act} {w : World} {l : List Oper} (cells : List (Addr × Value)) (order : List Nat) (g : Nat) (hno : ¬ LetsOut Q) (hd : l.all noDefer = true) (hm : P.follows .mixedOrders = true)
    (hg : l.toArray.size = (pick l order).length + g) (hh : order.map (l.toArray[·]?) = (pick l order).map some) (hs : Region.noSelect l.toArray = true) (hB : headsB l.toArray (Array.replicate l.toArray.size false) order = true)
    (hQ : ∀ c (d : Tmp) (v : Value) a w, Q (.panic c) (a.put (some d) v) w → Q (.panic c) a w) (hS : AllCells w.drew cells)
    (h : Nonempty (HeldC cells) → (∀ u : HeldC cells, AllCells u.w cells) → wpQuiet P l.toArray (fun w' => ∃ u : HeldC cells, w' = u.w) (fun a' => wpAnyN P .any l.toArray Q (fun w' => AllCells w' cells) (fun _ => true) g (listedAll (Array.replicate l.toArray.size false) order) a' w.drew) (pick l order) a) : (Code.region id l.toArray true).wpIn (Fence.wide.inRound r) n P Q a w :=
  wpIn_region_any hm (any_round hno (fun i o ho => by
    have : l[i]? = some o := by simpa using ho
    exact List.all_eq_true.1 hd o (List.mem_of_getElem? this)) _ _ _ _ (wpAny_of_N (S := fun w' => AllCells w' cells) (need := fun _ => true) _ _ _ _ (anyN_more order g hg hh hs hB hQ hS h)))
end
/-! ### what a round leaves alone -/
/-- 'Foreign' speaks of cells alone. -/
def FoOK (Fo : World → Nat → Prop) : Prop := ∀ (W W' : World) (row : Option Nat) (k : Nat), Fo W k → W.grownBy W' row → (∀ r, row = some r → ∃ o : Obj, W.heap[r]? = some o ∧ o.isCells = false) → Fo W' k
/-- Foreign blocks of cells lie as they lay, and are foreign still. -/
def KF (Fo : World → Nat → Prop) (W W' : World) : Prop := ∀ (k : Nat) cs e m, W.heap[k]? = some (.cells cs e m) → Fo W k → W'.heap[k]? = W.heap[k]? ∧ Fo W' k
section
variable {Fo : World → Nat → Prop} {A B C : World}
theorem KF.trans (h : KF Fo A B) (k : KF Fo B C) : KF Fo A C := fun j cs e m hj hf => by
  obtain ⟨h1, h2⟩ := h j cs e m hj hf
  obtain ⟨k1, k2⟩ := k j cs e m (h1.trans hj) h2
  exact ⟨k1.trans h1, k2⟩
theorem KF.put (hF : FoOK Fo) (W : World) (l : Nat) (o o' : Obj) (hl : W.heap[l]? = some o) (ho : o.isCells = false) : KF Fo W (W.putObj l o') := fun j cs e m hj hf => by
  have hne : j ≠ l := fun e => by
    subst e
    rw [hj] at hl
    cases hl
    cases ho
  exact ⟨World.putObj_heap_other hne, hF W _ (some l) j hf (grownBy_putObj' W l o') (fun r e => by cases e; exact ⟨o, hl, ho⟩)⟩
theorem grownBy_of_below (h : Below A.heap.size A B) : A.grownBy B none := ⟨h.os, h.tape, h.output, h.size, fun k hk _ => h.block k hk⟩
theorem FoOK.below (hF : FoOK Fo) (h : Below A.heap.size A B) {k : Nat} (hk : Fo A k) : Fo B k := hF A B none k hk (grownBy_of_below h) (fun r e => by cases e)
theorem KF.below (hF : FoOK Fo) (h : Below A.heap.size A B) : KF Fo A B := fun j cs e m hj hf => ⟨h.block j (Array.getElem?_eq_some_iff.1 hj).1, hF.below h hf⟩
end

theorem Blk.own {W W' : World} {g : Nat} {e : TypeId} {cs : Array Value} {row : Option Nat} (h : Blk W g e cs) (hg : W.grownBy W' row) (hr : ∀ r, row = some r → ∃ o : Obj, W.heap[r]? = some o ∧ o.isCells = false) : Blk W' g e cs :=
  (hg.block g h.lt (fun e => by
    obtain ⟨o, ho, hc⟩ := hr g e.symm
    rw [show W.heap[g]? = _ from h] at ho
    cases ho
    cases hc)).trans h
theorem below_own {S : Nat} {w W W' : World} {row : Option Nat} {B : Nat} (h : Below S w W) (hw : S ≤ w.heap.size) (hB : w.heap.size ≤ B) (hg : W.grownBy W' row) (hr : ∀ r, row = some r → B ≤ r) : Below S w W' :=
  ⟨hg.os.trans h.os, hg.tape.trans h.tape, hg.output.trans h.output, Nat.le_trans h.size hg.size, fun k hk => (hg.block k (Nat.lt_of_lt_of_le hk (Nat.le_trans hw h.size)) (fun e => by have := hr k e.symm; omega)).trans (h.block k hk)⟩

end Go.Proofs.YtdmbppgogdkpdaaGreatDoor
