/-
  A region that draws its order, step by step: some reads first, in an order of one's own, under a condition S on the world; then whichever may come up. No condition.
-/
import Derived.Test.YtgmlhpkhecbkoaaH
namespace Go.Proofs.Ytgmlhpkhecbkoaa
open Go.RowKit

/-- These may be taken first, one behind the other. -/
def headsB (ops : Array Oper) (listed : Array Bool) : List Nat → Bool
  | [] => true
  | k :: ks => (Region.ready .any ops listed).contains k && Region.free .any ops listed k && ((ops[k]?).map fun o => plainOp o.op).getD false && headsB ops (listed.setIfInBounds k true) ks
def listedAll (listed : Array Bool) : List Nat → Array Bool
  | [] => listed
  | k :: ks => listedAll (listed.setIfInBounds k true) ks
/-- Whoever needs no S has an edge to each of these. -/
def needB (ops : Array Oper) (need : List Nat) (order : List Nat) : Bool :=
  (List.range ops.size).all fun j => need.contains j || order.all fun i => ((ops[j]?).map fun o => o.after.any fun e => Region.binds .any e && e.on == i).getD true

theorem needB_spec {ops : Array Oper} {need order : List Nat} (h : needB ops need order = true) :
    ∀ i ∈ order, ∀ j oj, ops[j]? = some oj → need.contains j = false → ∃ e ∈ oj.after, Region.binds .any e = true ∧ e.on = i := by
  intro i hi j oj hj hn
  simp only [needB, List.all_eq_true, List.mem_range, Bool.or_eq_true] at h
  have h1 := h j (by have := (Array.getElem?_eq_some_iff.1 hj).1; exact this)
  rcases h1 with h1 | h1
  · rw [hn] at h1; cases h1
  · have h2 := h1 i hi
    rw [hj] at h2
    simp only [Option.map_some, Option.getD_some, Array.any_eq_true] at h2
    obtain ⟨x, hx, hxe⟩ := h2
    simp only [Bool.and_eq_true, beq_iff_eq] at hxe
    exact ⟨_, Array.getElem_mem hx, hxe.1, hxe.2⟩

theorem anyN_heads' {P : Program} {ops : Array Oper} {Q : Exit → Act → World → Prop} {S : World → Prop} {need : Nat → Bool} {g : Nat} {w : World} (hsel : Region.noSelect ops = true) (hS : S w)
    (hQ : ∀ c (d : Tmp) (v : Value) a w, Q (.panic c) (a.put (some d) v) w → Q (.panic c) a w) :
    ∀ (l : List Oper) (order : List Nat) (listed : Array Bool) (a : Act), order.map (ops[·]?) = l.map some →
    (∀ i ∈ order, ∀ j oj, ops[j]? = some oj → need j = false → ∃ e ∈ oj.after, Region.binds .any e = true ∧ e.on = i) →
    headsB ops listed order = true → wpQuiet P ops S (fun a' => wpAnyN P .any ops Q S need g (listedAll listed order) a' w) l a → wpAnyN P .any ops Q S need (l.length + g) listed a w
  | [], order, listed, a, hl, _, _, h => by
    have ho : order = [] := by simpa using hl
    subst ho
    simpa [listedAll, wpQuiet] using h
  | o :: l, [], listed, a, hl, _, _, h => by simp at hl
  | o :: l, k :: ks, listed, a, hl, hneed, hB, h => by
    simp only [List.map_cons, List.cons.injEq] at hl
    obtain ⟨h0, hl'⟩ := hl
    simp only [headsB, Bool.and_eq_true, h0, Option.map_some, Option.getD_some] at hB
    obtain ⟨⟨⟨hr, hf⟩, hp⟩, hB'⟩ := hB
    obtain ⟨v, hy, hK⟩ : ∃ v, YieldsIf P ops S o v a ∧ wpQuiet P ops S (fun a' => wpAnyN P .any ops Q S need g (listedAll listed (k :: ks)) a' w) l (a.put o.dst v) := by
      unfold wpQuiet at h
      split at h
      · rename_i hwt
        obtain ⟨v, h1, h2⟩ := h
        refine ⟨v, .inl ⟨hwt, fun w hw => ?_⟩, h2⟩
        have h3 := h1 w hw
        unfold Oper.quietAt at h3
        cases hrun : (execOp a.eval o).run P w with
        | ok x w' =>
          obtain ⟨u, rfl⟩ := plain_value hp hrun
          rw [hrun] at h3
          simp only [Oper.quietUpon] at h3
          obtain ⟨rfl, rfl⟩ := h3
          rfl
        | halt x w' => rw [hrun] at h3; simp [Oper.quietUpon] at h3
      · rename_i hwt
        exact ⟨undef, .inr ⟨by simpa using hwt, rfl⟩, h⟩
    have key := anyN_heads' hsel hS hQ l ks (listed.setIfInBounds k true) (a.put o.dst v) hl' (fun i hi => hneed i (List.mem_cons_of_mem _ hi)) hB' hK
    rw [List.length_cons, show l.length + 1 + g = (l.length + g) + 1 by omega]
    exact wpAnyN_first h0 (Region.noSelect_spec hsel) (fun c a w hq => by cases hd : o.dst with | none => (rw [hd] at hq; exact hq) | some d => (rw [hd] at hq; exact hQ c d v a w hq)) (hneed k (by simp)) (l.length + g) listed a w (Region.free_spec h0 hf) (by simpa using hr) hy hS key

/-- One operation, as the walk takes it. -/
theorem wpOp_of_list {P : Program} {ops : Array Oper} {Q : Exit → Act → World → Prop} {i : Nat} {o : Oper} {K : Act → World → Prop} {a : Act} {w : World} (h0 : ops[i]? = some o)
    (h' : wpList P ops (Exit.then K Q) [o] a w) : wpOp P ops Q i K a w := by
  unfold wpOp; simp only [h0]
  unfold wpList at h'
  split
  · rename_i hwt
    rw [if_pos hwt] at h'
    refine h'.imp (fun hh => ?_) (fun hh => ⟨hh.1, ?_⟩)
    · unfold Oper.wp at hh ⊢
      generalize (execOp a.eval o).run P w = r at *
      cases r with
      | ok x w' =>
        cases x <;> simp only [Oper.upon] at hh ⊢
        case enter f args =>
          refine Calls.mono hh fun e w'' he => ?_
          cases e with
          | returned v => simpa [wpList, Exit.then] using he
          | panicked c => exact he
          | outgrown => obtain ⟨a0, w0, hq⟩ := he; exact ⟨a0, w0, hq⟩
        case row r args => exact Rows.mono hh fun v w'' he => by simpa [wpList, Exit.then] using he
        all_goals simpa [wpList, Exit.then] using hh
      | halt x w' =>
        cases x <;> simp only [Oper.upon] at hh ⊢
        exact hh
    · obtain ⟨a0, w0, hq⟩ := hh.2; exact ⟨a0, w0, hq⟩
  · rename_i hwt
    rw [if_neg hwt] at h'
    simpa [wpList, Exit.then] using h'

/-- Whichever of those that may come up comes up. -/
theorem anyN_one {P : Program} {ops : Array Oper} {Q : Exit → Act → World → Prop} {S : World → Prop} {need : Nat → Bool} {g : Nat} {listed : Array Bool} {a : Act} {w : World} (i : Nat) (o : Oper)
    (hr : Region.ready .any ops listed = [i]) (h0 : ops[i]? = some o)
    (h : wpList P ops (Exit.then (fun a' w' => (need i = true → S w') ∧ wpAnyN P .any ops Q S need g (listed.setIfInBounds i true) a' w') Q) [o] a w) : wpAnyN P .any ops Q S need (g + 1) listed a w :=
  ⟨fun h1 => (by rw [hr] at h1; cases h1), fun j hj => by
    rw [hr] at hj
    have : j = i := by simpa using hj
    subst this
    exact wpOp_of_list h0 h⟩
theorem anyN_two {P : Program} {ops : Array Oper} {Q : Exit → Act → World → Prop} {S : World → Prop} {need : Nat → Bool} {g : Nat} {listed : Array Bool} {a : Act} {w : World} (i j : Nat) (o u : Oper)
    (hr : Region.ready .any ops listed = [i, j]) (h0 : ops[i]? = some o) (h1 : ops[j]? = some u)
    (h : wpList P ops (Exit.then (fun a' w' => (need i = true → S w') ∧ wpAnyN P .any ops Q S need g (listed.setIfInBounds i true) a' w') Q) [o] a w)
    (k : wpList P ops (Exit.then (fun a' w' => (need j = true → S w') ∧ wpAnyN P .any ops Q S need g (listed.setIfInBounds j true) a' w') Q) [u] a w) : wpAnyN P .any ops Q S need (g + 1) listed a w :=
  ⟨fun h1 => (by rw [hr] at h1; cases h1), fun m hm => by
    rw [hr] at hm
    simp only [List.mem_cons, List.not_mem_nil, or_false] at hm
    rcases hm with rfl | rfl
    · exact wpOp_of_list h0 h
    · exact wpOp_of_list h1 k⟩
/-- One order alone is left, and nobody reads any more. -/
theorem anyN_rest {P : Program} {ops : Array Oper} {Q : Exit → Act → World → Prop} {S : World → Prop} {need : Nat → Bool} {g : Nat} {listed : Array Bool} {a : Act} {w : World} (k : Nat) (rest : List Oper)
    (hg : rest.length = g) (hl : ∀ j, j < g → rest[j]? = ops[k + j]?) (hk : ops.size = k + g) (hn : ∀ j, j < g → need (k + j) = false) (hB : Region.seqB .any ops g k listed = true) (h : wpList P ops Q rest a w) : wpAnyN P .any ops Q S need g listed a w := by
  subst hg
  have := wpAnyN_tail (P := P) (ops := ops) (Q := Q) (S := S) (need := fun j => decide (j < k) && need j) [] rest k listed a w (fun j => by
    simp only [List.nil_append]
    by_cases hj : j < rest.length
    · exact hl j hj
    · rw [List.getElem?_eq_none (by omega), Array.getElem?_eq_none (by omega)]) (fun j hj => by simp at hj; simp; omega) (by simpa using hB) h
  simp only [List.nil_append] at this
  -- the two 'need' tell the same of what is left
  clear h
  revert this
  have mono : ∀ (f : Nat) (k' : Nat) (listed : Array Bool) (a : Act) (w : World), k ≤ k' → k' + f = ops.size → Region.seqB .any ops f k' listed = true → wpAnyN P .any ops Q S (fun j => decide (j < k) && need j) f listed a w → wpAnyN P .any ops Q S need f listed a w := by
    intro f
    induction f with
    | zero => intro _ _ _ _ _ _ _ h; exact h
    | succ f ih =>
      intro k' listed a w hkk hf hB h
      simp only [Region.seqB, Bool.and_eq_true, decide_eq_true_eq] at hB
      refine ⟨h.1, fun i hi => wpOp_mono (fun a' w' h' => ⟨fun hc => ?_, ?_⟩) (h.2 i hi)⟩
      · rw [hB.1] at hi
        have : i = k' := by simpa using hi
        subst this
        have := hn (i - k) (by omega)
        rw [show k + (i - k) = i by omega] at this
        rw [this] at hc; cases hc
      · rw [hB.1] at hi
        have : i = k' := by simpa using hi
        subst this
        exact ih (i + 1) _ a' w' (by omega) (by omega) hB.2 h'.2
  exact mono rest.length k listed a w (Nat.le_refl _) (by omega) hB

/-- The region, its heads by number. -/
theorem region_heads {P : Program} {id : Nat} {Q : Exit → Act → World → Prop} {a : Act} {w : World} {ops : Array Oper} (cells : List (Addr × Value)) (order need : List Nat) (heads : List Oper) (g : Nat) (hm : P.follows .mixedOrders = true)
    (hg : ops.size = heads.length + g) (hh : order.map (ops[·]?) = heads.map some) (hs : Region.noSelect ops = true) (hN : needB ops need order = true) (hB : headsB ops (Array.replicate ops.size false) order = true)
    (hQ : ∀ c (d : Tmp) (v : Value) a w, Q (.panic c) (a.put (some d) v) w → Q (.panic c) a w) (hS : AllCells w.drew cells)
    (h : Nonempty (HeldC cells) → (∀ u : HeldC cells, AllCells u.w cells) → wpQuiet P ops (fun w' => ∃ u : HeldC cells, w' = u.w) (fun a' => wpAnyN P .any ops Q (fun w' => AllCells w' cells) (fun j => need.contains j) g (listedAll (Array.replicate ops.size false) order) a' w.drew) heads a) : (Code.region id ops true).wp P Q a w := by
  have e : (fun w' : World => ∃ u : HeldC cells, w' = u.w) = (fun w' => AllCells w' cells) := by
    funext w'
    exact propext ⟨fun ⟨u, hu⟩ => hu ▸ u.ok, fun hw => ⟨⟨w', hw⟩, rfl⟩⟩
  have h' := h ⟨⟨w.drew, hS⟩⟩ (fun u => u.ok)
  rw [e] at h'
  refine wp_region_any hm (wpAny_of_N (S := fun w' => AllCells w' cells) (need := fun j => need.contains j) _ _ _ _ ?_)
  have key := anyN_heads' (P := P) (need := fun j => need.contains j) (g := g) (w := w.drew) hs hS hQ heads order (Array.replicate ops.size false) a hh (needB_spec hN) hB h'
  rw [hg]
  rw [hg] at key
  exact key

def pick (l : List Oper) : List Nat → List Oper
  | [] => []
  | k :: ks => (l.drop k).take 1 ++ pick l ks
theorem region_picked {P : Program} {id : Nat} {Q : Exit → Act → World → Prop} {a : Act} {w : World} {l : List Oper} (cells : List (Addr × Value)) (order need : List Nat) (g : Nat) (hm : P.follows .mixedOrders = true)
    (hg : l.toArray.size = (pick l order).length + g) (hh : order.map (l.toArray[·]?) = (pick l order).map some) (hs : Region.noSelect l.toArray = true) (hN : needB l.toArray need order = true) (hB : headsB l.toArray (Array.replicate l.toArray.size false) order = true)
    (hQ : ∀ c (d : Tmp) (v : Value) a w, Q (.panic c) (a.put (some d) v) w → Q (.panic c) a w) (hS : AllCells w.drew cells)
    (h : Nonempty (HeldC cells) → (∀ u : HeldC cells, AllCells u.w cells) → wpQuiet P l.toArray (fun w' => ∃ u : HeldC cells, w' = u.w) (fun a' => wpAnyN P .any l.toArray Q (fun w' => AllCells w' cells) (fun j => need.contains j) g (listedAll (Array.replicate l.toArray.size false) order) a' w.drew) (pick l order) a) : (Code.region id l.toArray true).wp P Q a w :=
  region_heads cells order need (pick l order) g hm hg hh hs hN hB hQ hS h

theorem drop_take_one {l : List Oper} {listed : Array Bool} {i : Nat} (hi : i ∈ Region.ready .any l.toArray listed) : ∃ o, l.toArray[i]? = some o ∧ (l.drop i).take 1 = [o] := by
  obtain ⟨_, o, ho, _⟩ := mem_ready.1 hi
  refine ⟨o, ho, ?_⟩
  have : l[i]? = some o := by simpa using ho
  obtain ⟨h1, h2⟩ := List.getElem?_eq_some_iff.1 this
  rw [List.drop_eq_getElem_cons h1, h2]; rfl
section
variable {P : Program} {l : List Oper} {Q : Exit → Act → World → Prop} {S : World → Prop} {need : Nat → Bool} {g : Nat} {listed : Array Bool} {a : Act} {w : World}
theorem anyN_oneL (i : Nat) (hr : Region.ready .any l.toArray listed = [i])
    (h : wpList P l.toArray (Exit.then (fun a' w' => (need i = true → S w') ∧ wpAnyN P .any l.toArray Q S need g (listed.setIfInBounds i true) a' w') Q) ((l.drop i).take 1) a w) : wpAnyN P .any l.toArray Q S need (g + 1) listed a w := by
  obtain ⟨o, ho, e⟩ := drop_take_one (l := l) (listed := listed) (i := i) (by rw [hr]; simp)
  rw [e] at h
  exact anyN_one i o hr ho h
theorem anyN_twoL (i j : Nat) (hr : Region.ready .any l.toArray listed = [i, j])
    (h : wpList P l.toArray (Exit.then (fun a' w' => (need i = true → S w') ∧ wpAnyN P .any l.toArray Q S need g (listed.setIfInBounds i true) a' w') Q) ((l.drop i).take 1) a w)
    (k : wpList P l.toArray (Exit.then (fun a' w' => (need j = true → S w') ∧ wpAnyN P .any l.toArray Q S need g (listed.setIfInBounds j true) a' w') Q) ((l.drop j).take 1) a w) : wpAnyN P .any l.toArray Q S need (g + 1) listed a w := by
  obtain ⟨o, ho, e⟩ := drop_take_one (l := l) (listed := listed) (i := i) (by rw [hr]; simp)
  obtain ⟨u, hu, f⟩ := drop_take_one (l := l) (listed := listed) (i := j) (by rw [hr]; simp)
  rw [e] at h
  rw [f] at k
  exact anyN_two i j o u hr ho hu h k
theorem anyN_restL (k : Nat) (hk : l.toArray.size = k + g) (hn : ∀ j, j < g → need (k + j) = false) (hB : Region.seqB .any l.toArray g k listed = true) (h : wpList P l.toArray Q (l.drop k) a w) : wpAnyN P .any l.toArray Q S need g listed a w := by
  have hk' : l.length = k + g := by simpa using hk
  exact anyN_rest k (l.drop k) (by rw [List.length_drop]; omega) (fun j hj => by simp) hk hn hB h
end
end Go.Proofs.Ytgmlhpkhecbkoaa
