/-
  General words on memory and on regions that draw their order. No condition.
-/
import Derived.Test.YtdmbppgogdkpdaaGreatDoorProg
import Derived.WalkKit
import Derived.WalkSpells
import Derived.Maps.AppendAt
import Derived.Deep.AppendLies
import Derived.Deep.Draws
import Derived.Deep.QuietTactic
import Derived.BigQuiet
import Derived.StillTailTactics
import Derived.OrdersHeld
namespace Go.Proofs.YtdmbppgogdkpdaaGreatDoor
open Go.RowKit


/-- A tag for each block: 0: nobody's. -/
abbrev Tags := Nat → Nat


section
variable {own own1 own2 : Tags} {t : Nat} {w w1 w2 : World}
end


section
variable {own own1 own2 : Tags} {s t : Nat} {w w1 w2 : World}
end



/-! ### a region that draws its order: reads first, then a tail in one order -/

/-- Operations that read, or only compute, and hand a value on. -/
def plainOp : Op → Bool
  | .move _ | .assign _ | .pick .. | .load .. | .nilCheck _ | .binOp .. | .unOp .. | .fieldAddr .. | .field .. | .indexAddr .. | .index .. | .lookup .. | .extract .. | .slice .. | .convert .. | .build .. => true
  | .call { callee := .builtin .len, .. } => true
  | _ => false
theorem ok_value {P : Program} {s : Sem Value} {w w' : World} {n : Next} (h : (do pure (.value (← s)) : Sem Next).run P w = .ok n w') : ∃ v, n = .value v := by
  rw [Sem.run_bind] at h
  cases hr : s.run P w with
  | ok v w1 => rw [hr] at h; simp at h; exact ⟨v, h.1.symm⟩
  | halt x w1 => rw [hr] at h; simp [Result.andThen] at h
theorem plain_value {P : Program} {ρ : Operand → Value} {o : Oper} (hp : plainOp o.op = true) {w w' : World} {n : Next} (h : (execOp ρ o).run P w = .ok n w') : ∃ v, n = .value v := by
  obtain ⟨dst, op, type, pos, after, guard⟩ := o
  cases op
  case call c =>
    obtain ⟨cal, args, ats⟩ := c
    cases cal
    case builtin b =>
      cases b <;> simp [plainOp] at hp
      exact ok_value h
    all_goals simp [plainOp] at hp
  case nilCheck x =>
    simp only [execOp] at h
    split at h
    · simp [runtimePanic, goPanic, Sem.run_bind, run_program, Sem.run] at h
    · simp [runtimePanic, goPanic, Sem.run_bind, run_program, Sem.run] at h
    · simp [runtimePanic, goPanic, Sem.run_bind, run_program, Sem.run] at h
    · split at h
      · simp [runtimePanic, goPanic, Sem.run_bind, run_program, Sem.run] at h
      · rw [Sem.run_bind, run_program] at h
        simp only [Result.andThen_ok, Sem.run_bind] at h
        generalize (nilAhead _ _ _ _).run P w = r at h
        cases r with
        | ok q w1 =>
          simp only [Result.andThen_ok] at h
          split at h
          · simp [unsupported, Sem.run, Result.andThen] at h
          · simp at h; exact ⟨_, h.1.symm⟩
        | halt x w1 => simp [Result.andThen] at h
      · simp at h; exact ⟨_, h.1.symm⟩
    · simp at h; exact ⟨_, h.1.symm⟩
  case pick c a b =>
    simp only [execOp, Sem.run_bind] at h
    generalize (asBool (ρ c)).run P w = r at h
    cases r with
    | ok q w1 => simp at h; exact ⟨_, h.1.symm⟩
    | halt x w1 => simp [Result.andThen] at h
  case move x => simp [execOp] at h; exact ⟨_, h.1.symm⟩
  case assign x => simp [execOp] at h; exact ⟨_, h.1.symm⟩
  all_goals first | (simp [plainOp] at hp; done) | exact ok_value h

section
variable {P : Program} {ops : Array Oper} {Q : Exit → Act → World → Prop} {md : Region.Mode} {S : World → Prop} {need : Nat → Bool}
/-- Whatever order is picked; S holds behind each operation of which 'need' says so. -/
def wpAnyN (P : Program) (md : Region.Mode) (ops : Array Oper) (Q : Exit → Act → World → Prop) (S : World → Prop) (need : Nat → Bool) : Nat → Array Bool → Act → World → Prop
  | 0, listed, a, w => Region.ready md ops listed = [] ∧ Q .normal a w
  | fuel + 1, listed, a, w =>
    (Region.ready md ops listed = [] → Q .normal a w) ∧
    ∀ i ∈ Region.ready md ops listed, wpOp P ops Q i (fun a' w' => (need i = true → S w') ∧ wpAnyN P md ops Q S need fuel (listed.setIfInBounds i true) a' w') a w
theorem wpAny_of_N : ∀ (fuel : Nat) (listed : Array Bool) (a : Act) (w : World), wpAnyN P md ops Q S need fuel listed a w → wpAny P md ops Q fuel listed a w
  | 0, _, _, _, h => h
  | fuel + 1, _, _, _, h => ⟨h.1, fun i hi => wpOp_mono (fun a' w' h' => wpAny_of_N fuel _ a' w' h'.2) (h.2 i hi)⟩
theorem wpAnyN_first {i : Nat} {oi : Oper} {v : Value} (hi : ops[i]? = some oi) (hsel : ∀ (j : Nat) (o : Oper) cs b, ops[j]? = some o → o.op ≠ .select cs b)
    (hQ : ∀ c a w, Q (.panic c) (a.put oi.dst v) w → Q (.panic c) a w)
    (hneed : ∀ j oj, ops[j]? = some oj → need j = false → ∃ e ∈ oj.after, Region.binds md e = true ∧ e.on = i) :
    ∀ (fuel : Nat) (listed : Array Bool) (a : Act) (w : World),
      (∀ j oj, ops[j]? = some oj → j ≠ i → listed.getD j true = false → (∀ e ∈ oj.after, Region.binds md e = true → e.on ≠ i) → oi.apart ops oj = true) →
      i ∈ Region.ready md ops listed → YieldsIf P ops S oi v a → S w →
      wpAnyN P md ops Q S need fuel (listed.setIfInBounds i true) (a.put oi.dst v) w → wpAnyN P md ops Q S need (fuel + 1) listed a w := by
  intro fuel
  induction fuel with
  | zero =>
    intro listed a w _ hr hy hS H
    refine ⟨fun h => (by rw [h] at hr; cases hr), fun j hj => ?_⟩
    by_cases hji : j = i
    · subst hji; exact hy.wpOp hi hS ⟨fun _ => hS, H⟩
    · have := ready_mono hj hji
      rw [H.1] at this
      cases this
  | succ fuel ih =>
    intro listed a w hfree hr hy hS H
    refine ⟨fun h => (by rw [h] at hr; cases hr), fun j hj => ?_⟩
    by_cases hji : j = i
    · subst hji; exact hy.wpOp hi hS ⟨fun _ => hS, H⟩
    · have h1 := H.2 j (ready_mono hj hji)
      obtain ⟨hjun, oj, hoj, hall⟩ := mem_ready.1 hj
      have hnot : ∀ e ∈ oj.after, Region.binds md e = true → e.on ≠ i := fun e he hb heq => by
        have h1 := hall e he hb
        have h0 := (mem_ready.1 hr).1
        rw [heq] at h1
        rcases Nat.lt_or_ge i listed.size with h' | h'
        · simp [h'] at h0 h1; rw [h0] at h1; cases h1
        · simp [Array.getElem?_eq_none h'] at h1
      have hn : need j = true := by
        cases hnj : need j with
        | true => rfl
        | false =>
          obtain ⟨e, he, hb, heq⟩ := hneed j oj hoj hnj
          exact absurd heq (hnot e he hb)
      have h2 := wpOp_putIf hoj (hfree j oj hoj hji hjun hnot) (fun cs b => hsel i oi cs b hi) (fun cs b => hsel j oj cs b hoj) hQ hy h1
      have hfree' : ∀ k ok, ops[k]? = some ok → k ≠ i → (listed.setIfInBounds j true).getD k true = false →
          (∀ e ∈ ok.after, Region.binds md e = true → e.on ≠ i) → oi.apart ops ok = true := fun k ok hk hki hun hno => by
        refine hfree k ok hk hki ?_ hno
        by_cases hjk : j = k
        · subst hjk; exact hjun
        · rw [getD_set_ne true hjk] at hun; exact hun
      refine wpOp_mono (fun a' w' h3 => ⟨h3.2.1, ih (listed.setIfInBounds j true) a' w' hfree' (ready_mono hr (Ne.symm hji)) h3.1 (h3.2.1 hn) ?_⟩) h2
      rw [Array.setIfInBounds_comm _ _ hji]
      exact h3.2.2
end





/-- These cells hold these values. -/
def AllCells (w : World) : List (Addr × Value) → Prop
  | [] => True
  | c :: cs => w.cell? c.1 = some c.2 ∧ AllCells w cs
structure HeldC (cells : List (Addr × Value)) where
  w : World
  ok : AllCells w cells

/-- These may be taken first, one behind the other. -/
def headsB (ops : Array Oper) (listed : Array Bool) : List Nat → Bool
  | [] => true
  | k :: ks => (Region.ready .any ops listed).contains k && Region.free .any ops listed k && ((ops[k]?).map fun o => plainOp o.op).getD false && headsB ops (listed.setIfInBounds k true) ks
def listedAll (listed : Array Bool) : List Nat → Array Bool
  | [] => listed
  | k :: ks => listedAll (listed.setIfInBounds k true) ks
/-- Whoever needs no S has an edge to each of these. -/
def needB (ops : Array Oper) (need : List Nat) (order : List Nat) : Bool :=
  (List.range ops.size).all fun j => need.contains j || order.all fun i => ((ops[j]?).map fun o => o.after.any fun e => Region.binds .any e && e.on == i).getD true

theorem needB_spec {ops : Array Oper} {need order : List Nat} (h : needB ops need order = true) :
    ∀ i ∈ order, ∀ j oj, ops[j]? = some oj → need.contains j = false → ∃ e ∈ oj.after, Region.binds .any e = true ∧ e.on = i := by
  intro i hi j oj hj hn
  simp only [needB, List.all_eq_true, List.mem_range, Bool.or_eq_true] at h
  have h1 := h j (by have := (Array.getElem?_eq_some_iff.1 hj).1; exact this)
  rcases h1 with h1 | h1
  · rw [hn] at h1; cases h1
  · have h2 := h1 i hi
    rw [hj] at h2
    simp only [Option.map_some, Option.getD_some, Array.any_eq_true] at h2
    obtain ⟨x, hx, hxe⟩ := h2
    simp only [Bool.and_eq_true, beq_iff_eq] at hxe
    exact ⟨_, Array.getElem_mem hx, hxe.1, hxe.2⟩

theorem anyN_heads' {P : Program} {ops : Array Oper} {Q : Exit → Act → World → Prop} {S : World → Prop} {need : Nat → Bool} {g : Nat} {w : World} (hsel : Region.noSelect ops = true) (hS : S w)
    (hQ : ∀ c (d : Tmp) (v : Value) a w, Q (.panic c) (a.put (some d) v) w → Q (.panic c) a w) :
    ∀ (l : List Oper) (order : List Nat) (listed : Array Bool) (a : Act), order.map (ops[·]?) = l.map some →
    (∀ i ∈ order, ∀ j oj, ops[j]? = some oj → need j = false → ∃ e ∈ oj.after, Region.binds .any e = true ∧ e.on = i) →
    headsB ops listed order = true → wpQuiet P ops S (fun a' => wpAnyN P .any ops Q S need g (listedAll listed order) a' w) l a → wpAnyN P .any ops Q S need (l.length + g) listed a w
  | [], order, listed, a, hl, _, _, h => by
    have ho : order = [] := by simpa using hl
    subst ho
    simpa [listedAll, wpQuiet] using h
  | o :: l, [], listed, a, hl, _, _, h => by simp at hl
  | o :: l, k :: ks, listed, a, hl, hneed, hB, h => by
    simp only [List.map_cons, List.cons.injEq] at hl
    obtain ⟨h0, hl'⟩ := hl
    simp only [headsB, Bool.and_eq_true, h0, Option.map_some, Option.getD_some] at hB
    obtain ⟨⟨⟨hr, hf⟩, hp⟩, hB'⟩ := hB
    obtain ⟨v, hy, hK⟩ : ∃ v, YieldsIf P ops S o v a ∧ wpQuiet P ops S (fun a' => wpAnyN P .any ops Q S need g (listedAll listed (k :: ks)) a' w) l (a.put o.dst v) := by
      unfold wpQuiet at h
      split at h
      · rename_i hwt
        obtain ⟨v, h1, h2⟩ := h
        refine ⟨v, .inl ⟨hwt, fun w hw => ?_⟩, h2⟩
        have h3 := h1 w hw
        unfold Oper.quietAt at h3
        cases hrun : (execOp a.eval o).run P w with
        | ok x w' =>
          obtain ⟨u, rfl⟩ := plain_value hp hrun
          rw [hrun] at h3
          simp only [Oper.quietUpon] at h3
          obtain ⟨rfl, rfl⟩ := h3
          rfl
        | halt x w' => rw [hrun] at h3; simp [Oper.quietUpon] at h3
      · rename_i hwt
        exact ⟨undef, .inr ⟨by simpa using hwt, rfl⟩, h⟩
    have key := anyN_heads' hsel hS hQ l ks (listed.setIfInBounds k true) (a.put o.dst v) hl' (fun i hi => hneed i (List.mem_cons_of_mem _ hi)) hB' hK
    rw [List.length_cons, show l.length + 1 + g = (l.length + g) + 1 by omega]
    exact wpAnyN_first h0 (Region.noSelect_spec hsel) (fun c a w hq => by cases hd : o.dst with | none => (rw [hd] at hq; exact hq) | some d => (rw [hd] at hq; exact hQ c d v a w hq)) (hneed k (by simp)) (l.length + g) listed a w (Region.free_spec h0 hf) (by simpa using hr) hy hS key

/-- One operation, as the walk takes it. -/
theorem wpOp_of_list {P : Program} {ops : Array Oper} {Q : Exit → Act → World → Prop} {i : Nat} {o : Oper} {K : Act → World → Prop} {a : Act} {w : World} (h0 : ops[i]? = some o)
    (h' : wpList P ops (Exit.then K Q) [o] a w) : wpOp P ops Q i K a w := by
  unfold wpOp; simp only [h0]
  unfold wpList at h'
  split
  · rename_i hwt
    rw [if_pos hwt] at h'
    refine h'.imp (fun hh => ?_) (fun hh => ⟨hh.1, ?_⟩)
    · unfold Oper.wp at hh ⊢
      generalize (execOp a.eval o).run P w = r at *
      cases r with
      | ok x w' =>
        cases x <;> simp only [Oper.upon] at hh ⊢
        case enter f args =>
          refine Calls.mono hh fun e w'' he => ?_
          cases e with
          | returned v => simpa [wpList, Exit.then] using he
          | panicked c => exact he
          | outgrown => obtain ⟨a0, w0, hq⟩ := he; exact ⟨a0, w0, hq⟩
        case row r args => exact Rows.mono hh fun v w'' he => by simpa [wpList, Exit.then] using he
        all_goals simpa [wpList, Exit.then] using hh
      | halt x w' =>
        cases x <;> simp only [Oper.upon] at hh ⊢
        exact hh
    · obtain ⟨a0, w0, hq⟩ := hh.2; exact ⟨a0, w0, hq⟩
  · rename_i hwt
    rw [if_neg hwt] at h'
    simpa [wpList, Exit.then] using h'

/-- Whichever of those that may come up comes up. -/
theorem anyN_one {P : Program} {ops : Array Oper} {Q : Exit → Act → World → Prop} {S : World → Prop} {need : Nat → Bool} {g : Nat} {listed : Array Bool} {a : Act} {w : World} (i : Nat) (o : Oper)
    (hr : Region.ready .any ops listed = [i]) (h0 : ops[i]? = some o)
    (h : wpList P ops (Exit.then (fun a' w' => (need i = true → S w') ∧ wpAnyN P .any ops Q S need g (listed.setIfInBounds i true) a' w') Q) [o] a w) : wpAnyN P .any ops Q S need (g + 1) listed a w :=
  ⟨fun h1 => (by rw [hr] at h1; cases h1), fun j hj => by
    rw [hr] at hj
    have : j = i := by simpa using hj
    subst this
    exact wpOp_of_list h0 h⟩
theorem anyN_two {P : Program} {ops : Array Oper} {Q : Exit → Act → World → Prop} {S : World → Prop} {need : Nat → Bool} {g : Nat} {listed : Array Bool} {a : Act} {w : World} (i j : Nat) (o u : Oper)
    (hr : Region.ready .any ops listed = [i, j]) (h0 : ops[i]? = some o) (h1 : ops[j]? = some u)
    (h : wpList P ops (Exit.then (fun a' w' => (need i = true → S w') ∧ wpAnyN P .any ops Q S need g (listed.setIfInBounds i true) a' w') Q) [o] a w)
    (k : wpList P ops (Exit.then (fun a' w' => (need j = true → S w') ∧ wpAnyN P .any ops Q S need g (listed.setIfInBounds j true) a' w') Q) [u] a w) : wpAnyN P .any ops Q S need (g + 1) listed a w :=
  ⟨fun h1 => (by rw [hr] at h1; cases h1), fun m hm => by
    rw [hr] at hm
    simp only [List.mem_cons, List.not_mem_nil, or_false] at hm
    rcases hm with rfl | rfl
    · exact wpOp_of_list h0 h
    · exact wpOp_of_list h1 k⟩

/-- The region, its heads by number. -/
theorem region_heads {P : Program} {id : Nat} {Q : Exit → Act → World → Prop} {a : Act} {w : World} {ops : Array Oper} (cells : List (Addr × Value)) (order need : List Nat) (heads : List Oper) (g : Nat) (hm : P.follows .mixedOrders = true)
    (hg : ops.size = heads.length + g) (hh : order.map (ops[·]?) = heads.map some) (hs : Region.noSelect ops = true) (hN : needB ops need order = true) (hB : headsB ops (Array.replicate ops.size false) order = true)
    (hQ : ∀ c (d : Tmp) (v : Value) a w, Q (.panic c) (a.put (some d) v) w → Q (.panic c) a w) (hS : AllCells w.drew cells)
    (h : Nonempty (HeldC cells) → (∀ u : HeldC cells, AllCells u.w cells) → wpQuiet P ops (fun w' => ∃ u : HeldC cells, w' = u.w) (fun a' => wpAnyN P .any ops Q (fun w' => AllCells w' cells) (fun j => need.contains j) g (listedAll (Array.replicate ops.size false) order) a' w.drew) heads a) : (Code.region id ops true).wp P Q a w := by
  have e : (fun w' : World => ∃ u : HeldC cells, w' = u.w) = (fun w' => AllCells w' cells) := by
    funext w'
    exact propext ⟨fun ⟨u, hu⟩ => hu ▸ u.ok, fun hw => ⟨⟨w', hw⟩, rfl⟩⟩
  have h' := h ⟨⟨w.drew, hS⟩⟩ (fun u => u.ok)
  rw [e] at h'
  refine wp_region_any hm (wpAny_of_N (S := fun w' => AllCells w' cells) (need := fun j => need.contains j) _ _ _ _ ?_)
  have key := anyN_heads' (P := P) (need := fun j => need.contains j) (g := g) (w := w.drew) hs hS hQ heads order (Array.replicate ops.size false) a hh (needB_spec hN) hB h'
  rw [hg]
  rw [hg] at key
  exact key

def pick (l : List Oper) : List Nat → List Oper
  | [] => []
  | k :: ks => (l.drop k).take 1 ++ pick l ks
theorem region_picked {P : Program} {id : Nat} {Q : Exit → Act → World → Prop} {a : Act} {w : World} {l : List Oper} (cells : List (Addr × Value)) (order need : List Nat) (g : Nat) (hm : P.follows .mixedOrders = true)
    (hg : l.toArray.size = (pick l order).length + g) (hh : order.map (l.toArray[·]?) = (pick l order).map some) (hs : Region.noSelect l.toArray = true) (hN : needB l.toArray need order = true) (hB : headsB l.toArray (Array.replicate l.toArray.size false) order = true)
    (hQ : ∀ c (d : Tmp) (v : Value) a w, Q (.panic c) (a.put (some d) v) w → Q (.panic c) a w) (hS : AllCells w.drew cells)
    (h : Nonempty (HeldC cells) → (∀ u : HeldC cells, AllCells u.w cells) → wpQuiet P l.toArray (fun w' => ∃ u : HeldC cells, w' = u.w) (fun a' => wpAnyN P .any l.toArray Q (fun w' => AllCells w' cells) (fun j => need.contains j) g (listedAll (Array.replicate l.toArray.size false) order) a' w.drew) (pick l order) a) : (Code.region id l.toArray true).wp P Q a w :=
  region_heads cells order need (pick l order) g hm hg hh hs hN hB hQ hS h

theorem drop_take_one {l : List Oper} {listed : Array Bool} {i : Nat} (hi : i ∈ Region.ready .any l.toArray listed) : ∃ o, l.toArray[i]? = some o ∧ (l.drop i).take 1 = [o] := by
  obtain ⟨_, o, ho, _⟩ := mem_ready.1 hi
  refine ⟨o, ho, ?_⟩
  have : l[i]? = some o := by simpa using ho
  obtain ⟨h1, h2⟩ := List.getElem?_eq_some_iff.1 this
  rw [List.drop_eq_getElem_cons h1, h2]; rfl
section
variable {P : Program} {l : List Oper} {Q : Exit → Act → World → Prop} {S : World → Prop} {need : Nat → Bool} {g : Nat} {listed : Array Bool} {a : Act} {w : World}
theorem anyN_oneL (i : Nat) (hr : Region.ready .any l.toArray listed = [i])
    (h : wpList P l.toArray (Exit.then (fun a' w' => (need i = true → S w') ∧ wpAnyN P .any l.toArray Q S need g (listed.setIfInBounds i true) a' w') Q) ((l.drop i).take 1) a w) : wpAnyN P .any l.toArray Q S need (g + 1) listed a w := by
  obtain ⟨o, ho, e⟩ := drop_take_one (l := l) (listed := listed) (i := i) (by rw [hr]; simp)
  rw [e] at h
  exact anyN_one i o hr ho h
theorem anyN_twoL (i j : Nat) (hr : Region.ready .any l.toArray listed = [i, j])
    (h : wpList P l.toArray (Exit.then (fun a' w' => (need i = true → S w') ∧ wpAnyN P .any l.toArray Q S need g (listed.setIfInBounds i true) a' w') Q) ((l.drop i).take 1) a w)
    (k : wpList P l.toArray (Exit.then (fun a' w' => (need j = true → S w') ∧ wpAnyN P .any l.toArray Q S need g (listed.setIfInBounds j true) a' w') Q) ((l.drop j).take 1) a w) : wpAnyN P .any l.toArray Q S need (g + 1) listed a w := by
  obtain ⟨o, ho, e⟩ := drop_take_one (l := l) (listed := listed) (i := i) (by rw [hr]; simp)
  obtain ⟨u, hu, f⟩ := drop_take_one (l := l) (listed := listed) (i := j) (by rw [hr]; simp)
  rw [e] at h
  rw [f] at k
  exact anyN_two i j o u hr ho hu h k
end

section
variable {P : Program} {ops : Array Oper} {Q : Exit → Act → World → Prop} {md : Region.Mode}
end

theorem wpAnyN_need {P : Program} {md : Region.Mode} {ops : Array Oper} {Q : Exit → Act → World → Prop} {S : World → Prop} {need : Nat → Bool} : ∀ (fuel : Nat) (listed : Array Bool) (a : Act) (w : World), wpAnyN P md ops Q S (fun _ => true) fuel listed a w → wpAnyN P md ops Q S need fuel listed a w
  | 0, _, _, _, h => h
  | fuel + 1, _, _, _, h => ⟨h.1, fun i hi => wpOp_mono (fun a' w' h' => ⟨fun _ => h'.1 rfl, wpAnyN_need fuel _ a' w' h'.2⟩) (h.2 i hi)⟩
theorem anyN_more {P : Program} {Q : Exit → Act → World → Prop} {a : Act} {w : World} {l : List Oper} {cells : List (Addr × Value)} {need : Nat → Bool} {listed : Array Bool} {f : Nat} (order : List Nat) (g : Nat)
    (hg : f = (pick l order).length + g) (hh : order.map (l.toArray[·]?) = (pick l order).map some) (hs : Region.noSelect l.toArray = true) (hB : headsB l.toArray listed order = true)
    (hQ : ∀ c (d : Tmp) (v : Value) a w, Q (.panic c) (a.put (some d) v) w → Q (.panic c) a w) (hS : AllCells w cells)
    (h : Nonempty (HeldC cells) → (∀ u : HeldC cells, AllCells u.w cells) → wpQuiet P l.toArray (fun w' => ∃ u : HeldC cells, w' = u.w) (fun a' => wpAnyN P .any l.toArray Q (fun w' => AllCells w' cells) (fun _ => true) g (listedAll listed order) a' w) (pick l order) a) :
    wpAnyN P .any l.toArray Q (fun w' => AllCells w' cells) need f listed a w := by
  have e : (fun w' : World => ∃ u : HeldC cells, w' = u.w) = (fun w' => AllCells w' cells) := by
    funext w'
    exact propext ⟨fun ⟨u, hu⟩ => hu ▸ u.ok, fun hw => ⟨⟨w', hw⟩, rfl⟩⟩
  have h' := h ⟨⟨w, hS⟩⟩ (fun u => u.ok)
  rw [e] at h'
  rw [hg]
  exact wpAnyN_need _ _ _ _ (anyN_heads' (P := P) (need := fun _ => true) (g := g) (w := w) hs hS hQ (pick l order) order listed a hh (fun _ _ _ _ _ h => by cases h) hB h')

/-- A region that draws its order: these reads first; S holds behind each operation. -/
theorem region_free {P : Program} {id : Nat} {Q : Exit → Act → World → Prop} {a : Act} {w : World} {l : List Oper} (cells : List (Addr × Value)) (order : List Nat) (g : Nat) (hm : P.follows .mixedOrders = true)
    (hg : l.toArray.size = (pick l order).length + g) (hh : order.map (l.toArray[·]?) = (pick l order).map some) (hs : Region.noSelect l.toArray = true) (hB : headsB l.toArray (Array.replicate l.toArray.size false) order = true)
    (hQ : ∀ c (d : Tmp) (v : Value) a w, Q (.panic c) (a.put (some d) v) w → Q (.panic c) a w) (hS : AllCells w.drew cells)
    (h : Nonempty (HeldC cells) → (∀ u : HeldC cells, AllCells u.w cells) → wpQuiet P l.toArray (fun w' => ∃ u : HeldC cells, w' = u.w) (fun a' => wpAnyN P .any l.toArray Q (fun w' => AllCells w' cells) (fun _ => true) g (listedAll (Array.replicate l.toArray.size false) order) a' w.drew) (pick l order) a) : (Code.region id l.toArray true).wp P Q a w :=
  wp_region_any hm (wpAny_of_N (S := fun w' => AllCells w' cells) (need := fun _ => true) _ _ _ _ (anyN_more order g hg hh hs hB hQ hS h))

section
variable {own own' : Tags} {w w' : World} {T : List Nat} {t : Nat} {cells : List (Addr × Value)}
end

def Blk (w : World) (g : Nat) (e : TypeId) (cs : Array Value) : Prop := w.heap[g]? = some (.cells cs e (0, 0))
section
variable {w w' : World} {g : Nat} {e : TypeId} {cs : Array Value}
theorem Blk.lt (h : Blk w g e cs) : g < w.heap.size := (Array.getElem?_eq_some_iff.1 h).1
theorem Blk.cell (h : Blk w g e cs) (i : Nat) : w.cell? ⟨g, i, none⟩ = cs[i]? := cell_of_row w g i cs e (0, 0) h
theorem Blk.frozen (h : Blk w g e cs) (i : Nat) : w.frozen? ⟨g, i, none⟩ = false := by
  unfold Blk at h
  simp [World.frozen?, h]
theorem Blk.kept (h : Blk w g e cs) (k : w'.heap[g]? = w.heap[g]?) : Blk w' g e cs := k.trans h
theorem Blk.new (w : World) (e : TypeId) (cs : Array Value) : Blk (w.alloc (.cells cs e)) w.heap.size e cs := heap_alloc_new w _
theorem Blk.alloc (h : Blk w g e cs) (o : Obj) : Blk (w.alloc o) g e cs := (Below.heap_alloc w o g h.lt).trans h
theorem Blk.store (h : Blk w g e cs) (i : Nat) (u : Value) : Blk (w.setCell ⟨g, i, none⟩ u) g e (cs.setIfInBounds i u) := by
  unfold Blk at h ⊢
  simp [World.setCell, Array.getElem?_modify, h]
theorem Blk.far (h : Blk w g e cs) {p : Addr} (hp : g ≠ p.block) (u : Value) : Blk (w.setCell p u) g e cs := (Below.heap_setCell w p u g hp).trans h
end

theorem ownsRow_kept {w w' : World} {base : Nat} {e : TypeId} {size : Nat} {v : Value} {n : Nat} {xs : List Value} (h : w.ownsRow base e size v n xs) (hk : ∀ g, v.ownBlock = some g → g < w.heap.size → w'.heap[g]? = w.heap[g]?) : w'.ownsRow base e size v n xs := by
  refine ⟨h.1, ?_⟩
  rcases h.2 with h2 | ⟨g, cap, cur, hv, hb, hg, h3⟩
  · exact .inl h2
  · exact .inr ⟨g, cap, cur, hv, hb, (hk g (by rw [hv]; rfl) (Array.getElem?_eq_some_iff.1 hg).1).trans hg, h3⟩
theorem ownsRow_base {w : World} {base : Nat} {e : TypeId} {size : Nat} {v : Value} {n : Nat} {xs : List Value} (h : w.ownsRow base e size v n xs) : ∀ k, v.ownBlock = some k → base ≤ k := by
  intro k hk
  rcases h.2 with ⟨hv, _⟩ | ⟨g, cap, cur, hv, hb, _⟩
  · rw [hv] at hk; cases hk
  · rw [hv] at hk; simp [Value.ownBlock] at hk; omega
theorem AllCells.below {w w' : World} : ∀ {cells : List (Addr × Value)}, AllCells w cells → Below w.heap.size w w' → AllCells w' cells
  | [], _, _ => trivial
  | c :: _, h, hb => ⟨(hb.cell (p := c.1) (World.block_lt_of_cell? w c.1 h.1)).trans h.1, AllCells.below h.2 hb⟩

section
variable {w0 w w' : World} {own own' : Tags} {t : Nat}
end
section
variable {w w' : World} {own own' : Tags} {t X : Nat} {e : TypeId} {cs : Array Value}
end
end Go.Proofs.YtdmbppgogdkpdaaGreatDoor
