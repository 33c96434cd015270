/-
  A region that draws its order: the reads are taken first, under a condition S on the world that the effects keep while a read may still come; then a tail. No condition.
-/
import Derived.Test.YtgmlhpkhecbkoaaG
import Derived.OrdersHeld
namespace Go.Proofs.Ytgmlhpkhecbkoaa
open Go.RowKit

/-- Operations that read, or only compute, and hand a value on. -/
def plainOp : Op → Bool
  | .move _ | .assign _ | .pick .. | .load .. | .nilCheck _ | .binOp .. | .unOp .. | .fieldAddr .. | .field .. | .indexAddr .. | .index .. | .lookup .. | .extract .. | .slice .. | .convert .. | .build .. => true
  | .call { callee := .builtin .len, .. } => true
  | _ => false
theorem ok_value {P : Program} {s : Sem Value} {w w' : World} {n : Next} (h : (do pure (.value (← s)) : Sem Next).run P w = .ok n w') : ∃ v, n = .value v := by
  rw [Sem.run_bind] at h
  cases hr : s.run P w with
  | ok v w1 => rw [hr] at h; simp at h; exact ⟨v, h.1.symm⟩
  | halt x w1 => rw [hr] at h; simp [Result.andThen] at h
theorem plain_value {P : Program} {ρ : Operand → Value} {o : Oper} (hp : plainOp o.op = true) {w w' : World} {n : Next} (h : (execOp ρ o).run P w = .ok n w') : ∃ v, n = .value v := by
  obtain ⟨dst, op, type, pos, after, guard⟩ := o
  cases op
  case call c =>
    obtain ⟨cal, args, ats⟩ := c
    cases cal
    case builtin b =>
      cases b <;> simp [plainOp] at hp
      exact ok_value h
    all_goals simp [plainOp] at hp
  case nilCheck x =>
    simp only [execOp] at h
    split at h
    · simp [runtimePanic, goPanic, Sem.run_bind, run_program, Sem.run] at h
    · simp [runtimePanic, goPanic, Sem.run_bind, run_program, Sem.run] at h
    · simp [runtimePanic, goPanic, Sem.run_bind, run_program, Sem.run] at h
    · split at h
      · simp [runtimePanic, goPanic, Sem.run_bind, run_program, Sem.run] at h
      · rw [Sem.run_bind, run_program] at h
        simp only [Result.andThen_ok, Sem.run_bind] at h
        generalize (nilAhead _ _ _ _).run P w = r at h
        cases r with
        | ok q w1 =>
          simp only [Result.andThen_ok] at h
          split at h
          · simp [unsupported, Sem.run, Result.andThen] at h
          · simp at h; exact ⟨_, h.1.symm⟩
        | halt x w1 => simp [Result.andThen] at h
      · simp at h; exact ⟨_, h.1.symm⟩
    · simp at h; exact ⟨_, h.1.symm⟩
  case pick c a b =>
    simp only [execOp, Sem.run_bind] at h
    generalize (asBool (ρ c)).run P w = r at h
    cases r with
    | ok q w1 => simp at h; exact ⟨_, h.1.symm⟩
    | halt x w1 => simp [Result.andThen] at h
  case move x => simp [execOp] at h; exact ⟨_, h.1.symm⟩
  case assign x => simp [execOp] at h; exact ⟨_, h.1.symm⟩
  all_goals first | (simp [plainOp] at hp; done) | exact ok_value h

section
variable {P : Program} {ops : Array Oper} {Q : Exit → Act → World → Prop} {md : Region.Mode} {S : World → Prop} {need : Nat → Bool}
/-- Whatever order is picked; S holds behind each operation of which 'need' says so. -/
def wpAnyN (P : Program) (md : Region.Mode) (ops : Array Oper) (Q : Exit → Act → World → Prop) (S : World → Prop) (need : Nat → Bool) : Nat → Array Bool → Act → World → Prop
  | 0, listed, a, w => Region.ready md ops listed = [] ∧ Q .normal a w
  | fuel + 1, listed, a, w =>
    (Region.ready md ops listed = [] → Q .normal a w) ∧
    ∀ i ∈ Region.ready md ops listed, wpOp P ops Q i (fun a' w' => (need i = true → S w') ∧ wpAnyN P md ops Q S need fuel (listed.setIfInBounds i true) a' w') a w
theorem wpAny_of_N : ∀ (fuel : Nat) (listed : Array Bool) (a : Act) (w : World), wpAnyN P md ops Q S need fuel listed a w → wpAny P md ops Q fuel listed a w
  | 0, _, _, _, h => h
  | fuel + 1, _, _, _, h => ⟨h.1, fun i hi => wpOp_mono (fun a' w' h' => wpAny_of_N fuel _ a' w' h'.2) (h.2 i hi)⟩
theorem wpAnyN_first {i : Nat} {oi : Oper} {v : Value} (hi : ops[i]? = some oi) (hsel : ∀ (j : Nat) (o : Oper) cs b, ops[j]? = some o → o.op ≠ .select cs b)
    (hQ : ∀ c a w, Q (.panic c) (a.put oi.dst v) w → Q (.panic c) a w)
    (hneed : ∀ j oj, ops[j]? = some oj → need j = false → ∃ e ∈ oj.after, Region.binds md e = true ∧ e.on = i) :
    ∀ (fuel : Nat) (listed : Array Bool) (a : Act) (w : World),
      (∀ j oj, ops[j]? = some oj → j ≠ i → listed.getD j true = false → (∀ e ∈ oj.after, Region.binds md e = true → e.on ≠ i) → oi.apart ops oj = true) →
      i ∈ Region.ready md ops listed → YieldsIf P ops S oi v a → S w →
      wpAnyN P md ops Q S need fuel (listed.setIfInBounds i true) (a.put oi.dst v) w → wpAnyN P md ops Q S need (fuel + 1) listed a w := by
  intro fuel
  induction fuel with
  | zero =>
    intro listed a w _ hr hy hS H
    refine ⟨fun h => (by rw [h] at hr; cases hr), fun j hj => ?_⟩
    by_cases hji : j = i
    · subst hji; exact hy.wpOp hi hS ⟨fun _ => hS, H⟩
    · have := ready_mono hj hji
      rw [H.1] at this
      cases this
  | succ fuel ih =>
    intro listed a w hfree hr hy hS H
    refine ⟨fun h => (by rw [h] at hr; cases hr), fun j hj => ?_⟩
    by_cases hji : j = i
    · subst hji; exact hy.wpOp hi hS ⟨fun _ => hS, H⟩
    · have h1 := H.2 j (ready_mono hj hji)
      obtain ⟨hjun, oj, hoj, hall⟩ := mem_ready.1 hj
      have hnot : ∀ e ∈ oj.after, Region.binds md e = true → e.on ≠ i := fun e he hb heq => by
        have h1 := hall e he hb
        have h0 := (mem_ready.1 hr).1
        rw [heq] at h1
        rcases Nat.lt_or_ge i listed.size with h' | h'
        · simp [h'] at h0 h1; rw [h0] at h1; cases h1
        · simp [Array.getElem?_eq_none h'] at h1
      have hn : need j = true := by
        cases hnj : need j with
        | true => rfl
        | false =>
          obtain ⟨e, he, hb, heq⟩ := hneed j oj hoj hnj
          exact absurd heq (hnot e he hb)
      have h2 := wpOp_putIf hoj (hfree j oj hoj hji hjun hnot) (fun cs b => hsel i oi cs b hi) (fun cs b => hsel j oj cs b hoj) hQ hy h1
      have hfree' : ∀ k ok, ops[k]? = some ok → k ≠ i → (listed.setIfInBounds j true).getD k true = false →
          (∀ e ∈ ok.after, Region.binds md e = true → e.on ≠ i) → oi.apart ops ok = true := fun k ok hk hki hun hno => by
        refine hfree k ok hk hki ?_ hno
        by_cases hjk : j = k
        · subst hjk; exact hjun
        · rw [getD_set_ne true hjk] at hun; exact hun
      refine wpOp_mono (fun a' w' h3 => ⟨h3.2.1, ih (listed.setIfInBounds j true) a' w' hfree' (ready_mono hr (Ne.symm hji)) h3.1 (h3.2.1 hn) ?_⟩) h2
      rw [Array.setIfInBounds_comm _ _ hji]
      exact h3.2.2
end

/-- The tail: behind each of its first operations S holds. -/
def tailWp (P : Program) (ops : Array Oper) (Q : Exit → Act → World → Prop) (S : World → Prop) : List Oper → List Oper → Act → World → Prop
  | [], rest, a, w => wpList P ops Q rest a w
  | o :: ls, rest, a, w => wpList P ops (Exit.then (fun a' w' => S w' ∧ tailWp P ops Q S ls rest a' w') Q) [o] a w

/-- The static look: heads 0 .. n-1, one behind the other; each may be taken first; whoever needs no S has an edge to each head; behind the heads one order alone. -/
def heldHead (ops : Array Oper) (g : Nat) : Nat → Nat → Array Bool → Bool
  | 0, k, listed => Region.seqB .any ops g k listed
  | f + 1, k, listed => (Region.ready .any ops listed).contains k && Region.free .any ops listed k && ((ops[k]?).map fun o => plainOp o.op).getD false && heldHead ops g f (k + 1) (listed.setIfInBounds k true)
def heldB (ops : Array Oper) (n m : Nat) : Bool :=
  Region.noSelect ops && decide (n + m ≤ ops.size) &&
  ((List.range ops.size).all fun j => decide (j < n + m) || (List.range n).all fun i => ((ops[j]?).map fun o => o.after.any fun e => Region.binds .any e && e.on == i).getD true) &&
  heldHead ops (ops.size - n) n 0 (Array.replicate ops.size false)

theorem wpAnyN_tail {P : Program} {ops : Array Oper} {Q : Exit → Act → World → Prop} {S : World → Prop} {need : Nat → Bool} :
    ∀ (late rest : List Oper) (k : Nat) (listed : Array Bool) (a : Act) (w : World), (∀ j, (late ++ rest)[j]? = ops[k + j]?) → (∀ j, k + late.length ≤ j → need j = false) →
    Region.seqB .any ops (late ++ rest).length k listed = true → tailWp P ops Q S late rest a w → wpAnyN P .any ops Q S need (late ++ rest).length listed a w
  | [], [], k, listed, a, w, _, _, hB, h => by
    simp only [List.nil_append, List.length_nil, Region.seqB, List.isEmpty_iff] at hB ⊢
    exact ⟨hB, by simpa [tailWp, wpList] using h⟩
  | [], o :: rest, k, listed, a, w, hl, hn, hB, h => by
    have h0 : ops[k]? = some o := by simpa using (hl 0).symm
    simp only [List.nil_append, List.length_cons, Region.seqB, Bool.and_eq_true, decide_eq_true_eq] at hB ⊢
    refine ⟨fun h1 => (by rw [hB.1] at h1; cases h1), fun i hi => ?_⟩
    rw [hB.1] at hi
    have hik : i = k := by simpa using hi
    subst hik
    have hw : wpOp P ops Q i (wpList P ops Q rest) a w := by unfold wpOp; simp only [h0]; exact h
    refine wpOp_mono (fun a' w' h' => ⟨fun hc => (by rw [hn i (by simp)] at hc; cases hc), ?_⟩) hw
    exact wpAnyN_tail [] rest (i + 1) _ a' w' (fun j => by have := hl (j + 1); simpa [Nat.add_assoc, Nat.add_comm 1 j] using this) (fun j hj => hn j (by simp at hj ⊢; omega)) hB.2 h'
  | o :: late, rest, k, listed, a, w, hl, hn, hB, h => by
    have h0 : ops[k]? = some o := by simpa using (hl 0).symm
    simp only [List.cons_append, List.length_cons, Region.seqB, Bool.and_eq_true, decide_eq_true_eq] at hB ⊢
    refine ⟨fun h1 => (by rw [hB.1] at h1; cases h1), fun i hi => ?_⟩
    rw [hB.1] at hi
    have hik : i = k := by simpa using hi
    subst hik
    have hQ : ∀ (e : Exit) (a : Act) (w : World), e ≠ .normal → Exit.then (fun a' w' => S w' ∧ tailWp P ops Q S late rest a' w') Q e a w → Q e a w := fun e a w he hq => by cases e <;> first | exact absurd rfl he | exact hq
    have hw : wpOp P ops Q i (fun a' w' => S w' ∧ tailWp P ops Q S late rest a' w') a w := by
      unfold wpOp; simp only [h0]
      have h' : wpList P ops (Exit.then (fun a' w' => S w' ∧ tailWp P ops Q S late rest a' w') Q) [o] a w := h
      unfold wpList at h'
      split
      · rename_i hwt
        rw [if_pos hwt] at h'
        refine h'.imp (fun hh => ?_) (fun hh => ⟨hh.1, ?_⟩)
        · unfold Oper.wp at hh ⊢
          generalize (execOp a.eval o).run P w = r at *
          cases r with
          | ok x w' =>
            cases x <;> simp only [Oper.upon] at hh ⊢
            case enter f args =>
              refine Calls.mono hh fun e w'' he => ?_
              cases e with
              | returned v => simpa [wpList, Exit.then] using he
              | panicked c => exact he
              | outgrown => obtain ⟨a0, w0, hq⟩ := he; exact ⟨a0, w0, hq⟩
            case row r args => exact Rows.mono hh fun v w'' he => by simpa [wpList, Exit.then] using he
            all_goals simpa [wpList, Exit.then] using hh
          | halt x w' =>
            cases x <;> simp only [Oper.upon] at hh ⊢
            exact hh
        · obtain ⟨a0, w0, hq⟩ := hh.2; exact ⟨a0, w0, hq⟩
      · rename_i hwt
        rw [if_neg hwt] at h'
        simpa [wpList, Exit.then] using h'
    refine wpOp_mono (fun a' w' h' => ⟨fun _ => h'.1, ?_⟩) hw
    exact wpAnyN_tail late rest (i + 1) _ a' w' (fun j => by have := hl (j + 1); simpa [Nat.add_assoc, Nat.add_comm 1 j] using this) (fun j hj => hn j (by simp only [List.length_cons]; omega)) hB.2 h'.2

theorem wpAnyN_lex {P : Program} {ops : Array Oper} {Q : Exit → Act → World → Prop} {S : World → Prop} {need : Nat → Bool} {g n : Nat} {w : World} (hsel : Region.noSelect ops = true) (hS : S w)
    (hQ : ∀ c (d : Tmp) (v : Value) a w, Q (.panic c) (a.put (some d) v) w → Q (.panic c) a w)
    (hneed : ∀ i, i < n → ∀ j oj, ops[j]? = some oj → need j = false → ∃ e ∈ oj.after, Region.binds .any e = true ∧ e.on = i)
    {T : Act → Prop} (hT : ∀ listed a, Region.seqB .any ops g n listed = true → T a → wpAnyN P .any ops Q S need g listed a w) :
    ∀ (l : List Oper) (k : Nat) (listed : Array Bool) (a : Act), (∀ j, j < l.length → l[j]? = ops[k + j]?) → k + l.length = n →
    heldHead ops g l.length k listed = true → wpQuiet P ops S T l a → wpAnyN P .any ops Q S need (l.length + g) listed a w
  | [], k, listed, a, _, hk, hB, h => by
    have : k = n := by simpa using hk
    subst this
    simp only [List.length_nil, Nat.zero_add]
    exact hT listed a (by simpa [heldHead] using hB) h
  | o :: l, k, listed, a, hl, hk, hB, h => by
    have h0 : ops[k]? = some o := by simpa using (hl 0 (by simp)).symm
    simp only [List.length_cons, heldHead, Bool.and_eq_true, h0, Option.map_some, Option.getD_some] at hB
    obtain ⟨⟨⟨hr, hf⟩, hp⟩, hB'⟩ := hB
    have hkn : k < n := by simp only [List.length_cons] at hk; omega
    obtain ⟨v, hy, hK⟩ : ∃ v, YieldsIf P ops S o v a ∧ wpQuiet P ops S T l (a.put o.dst v) := by
      unfold wpQuiet at h
      split at h
      · rename_i hwt
        obtain ⟨v, h1, h2⟩ := h
        refine ⟨v, .inl ⟨hwt, fun w hw => ?_⟩, h2⟩
        have h3 := h1 w hw
        unfold Oper.quietAt at h3
        cases hrun : (execOp a.eval o).run P w with
        | ok x w' =>
          obtain ⟨u, rfl⟩ := plain_value hp hrun
          rw [hrun] at h3
          simp only [Oper.quietUpon] at h3
          obtain ⟨rfl, rfl⟩ := h3
          rfl
        | halt x w' => rw [hrun] at h3; simp [Oper.quietUpon] at h3
      · rename_i hwt
        exact ⟨undef, .inr ⟨by simpa using hwt, rfl⟩, h⟩
    have key := wpAnyN_lex hsel hS hQ hneed hT l (k + 1) (listed.setIfInBounds k true) (a.put o.dst v) (fun j hj => by have := hl (j + 1) (by simp; omega); simpa [Nat.add_assoc, Nat.add_comm 1 j] using this) (by simp only [List.length_cons] at hk; omega) hB' hK
    rw [List.length_cons, show l.length + 1 + g = (l.length + g) + 1 by omega]
    exact wpAnyN_first h0 (Region.noSelect_spec hsel) (fun c a w hq => by cases hd : o.dst with | none => (rw [hd] at hq; exact hq) | some d => (rw [hd] at hq; exact hQ c d v a w hq)) (hneed k hkn) (l.length + g) listed a w (Region.free_spec h0 hf) (by simpa using hr) hy hS key

/-- THE LAW. 'hQ' is 'fun _ _ _ _ _ h => h'. -/
theorem region_heldS {P : Program} {id : Nat} {Q : Exit → Act → World → Prop} {a : Act} {w : World} {l : List Oper} (S : World → Prop) (n m : Nat) (hm : P.follows .mixedOrders = true) (hB : heldB l.toArray n m = true)
    (hQ : ∀ c (d : Tmp) (v : Value) a w, Q (.panic c) (a.put (some d) v) w → Q (.panic c) a w) (hS : S w.drew)
    (h : wpQuiet P l.toArray S (fun a' => tailWp P l.toArray Q S ((l.drop n).take m) (l.drop (n + m)) a' w.drew) (l.take n) a) : (Code.region id l.toArray true).wp P Q a w := by
  simp only [heldB, Bool.and_eq_true, decide_eq_true_eq, List.all_eq_true, Bool.or_eq_true, List.mem_range] at hB
  obtain ⟨⟨⟨hsel, hnm⟩, hed⟩, hhead⟩ := hB
  simp only [List.size_toArray] at hnm hed hhead
  have htl : (l.take n).length = n := by simp; omega
  have hlate : ((l.drop n).take m).length = m := by simp; omega
  have happ : (l.drop n).take m ++ l.drop (n + m) = l.drop n := by rw [← List.drop_drop]; exact List.take_append_drop m (l.drop n)
  refine wp_region_any hm (wpAny_of_N (S := S) (need := fun j => decide (j < n + m)) _ _ _ _ ?_)
  have key := wpAnyN_lex (P := P) (Q := Q) (S := S) (need := fun j => decide (j < n + m)) (g := l.length - n) (n := n) (w := w.drew) hsel hS hQ
    (fun i hi j oj hj hnj => by
      have hjl : j < l.length := by have := (Array.getElem?_eq_some_iff.1 hj).1; simpa using this
      have h1 := hed j hjl
      have hnj' : ¬ j < n + m := by simpa using hnj
      rcases h1 with h1 | h1
      · exact absurd h1 hnj'
      · have h2 := h1 i hi
        rw [hj] at h2
        simp only [Option.map_some, Option.getD_some, Array.any_eq_true] at h2
        obtain ⟨x, hx, hxe⟩ := h2
        simp only [Bool.and_eq_true, beq_iff_eq] at hxe
        exact ⟨_, Array.getElem_mem hx, hxe.1, hxe.2⟩)
    (T := fun a' => tailWp P l.toArray Q S ((l.drop n).take m) (l.drop (n + m)) a' w.drew)
    (fun listed a' hs ht => by
      have := wpAnyN_tail (P := P) (ops := l.toArray) (Q := Q) (S := S) (need := fun j => decide (j < n + m)) ((l.drop n).take m) (l.drop (n + m)) n listed a' w.drew
        (fun j => by rw [happ]; simp [List.getElem?_drop]) (fun j hj => by rw [hlate] at hj; simpa using hj) (by rw [happ]; simpa using hs) ht
      rw [happ] at this
      simpa using this)
    (l.take n) 0 (Array.replicate l.length false) a (fun j hj => by
      have hj' : j < n := by rw [htl] at hj; exact hj
      simp [hj']) (by simpa using htl) (by rw [htl]; exact hhead) h
  rw [htl, show n + (l.length - n) = l.length by omega] at key
  simpa using key
/-- These cells hold these values. -/
def AllCells (w : World) : List (Addr × Value) → Prop
  | [] => True
  | c :: cs => w.cell? c.1 = some c.2 ∧ AllCells w cs
theorem AllCells.alloc {w : World} : ∀ {cells : List (Addr × Value)}, AllCells w cells → ∀ o : Obj, AllCells (w.alloc o) cells
  | [], _, _ => trivial
  | c :: _, h, o => ⟨(World.cell?_alloc_lt w o c.1 (World.block_lt_of_cell? w c.1 h.1)).trans h.1, AllCells.alloc h.2 o⟩
theorem AllCells.drew {w : World} : ∀ {cells : List (Addr × Value)}, AllCells w cells → AllCells w.drew cells
  | [], _ => trivial
  | _ :: _, h => ⟨h.1, AllCells.drew h.2⟩
structure HeldC (cells : List (Addr × Value)) where
  w : World
  ok : AllCells w cells
/-- The same, S being 'these cells hold these values'; the facts on the cells come as 'hu', to be laid open by 'simp only [AllCells] at hu'. -/
theorem region_held {P : Program} {id : Nat} {Q : Exit → Act → World → Prop} {a : Act} {w : World} {l : List Oper} (cells : List (Addr × Value)) (n m : Nat) (hm : P.follows .mixedOrders = true) (hB : heldB l.toArray n m = true)
    (hQ : ∀ c (d : Tmp) (v : Value) a w, Q (.panic c) (a.put (some d) v) w → Q (.panic c) a w) (hS : AllCells w.drew cells)
    (h : Nonempty (HeldC cells) → (∀ u : HeldC cells, AllCells u.w cells) → wpQuiet P l.toArray (fun w' => ∃ u : HeldC cells, w' = u.w) (fun a' => tailWp P l.toArray Q (fun w' => AllCells w' cells) ((l.drop n).take m) (l.drop (n + m)) a' w.drew) (l.take n) a) : (Code.region id l.toArray true).wp P Q a w := by
  have e : (fun w' : World => ∃ u : HeldC cells, w' = u.w) = (fun w' => AllCells w' cells) := by
    funext w'
    exact propext ⟨fun ⟨u, hu⟩ => hu ▸ u.ok, fun hw => ⟨⟨w', hw⟩, rfl⟩⟩
  have h' := h ⟨⟨w.drew, hS⟩⟩ (fun u => u.ok)
  rw [e] at h'
  exact region_heldS (fun w' => AllCells w' cells) n m hm hB hQ hS h'
end Go.Proofs.Ytgmlhpkhecbkoaa
