/-
  General words on memory and on regions that draw their order. No condition.
-/
import Derived.Test.YtoicnghjjgkebaaGreatDoorProg
import Derived.WalkKit
import Derived.WalkSpells
import Derived.Maps.AppendAt
import Derived.Deep.AppendLies
import Derived.Deep.Draws
import Derived.Deep.QuietTactic
import Derived.BigQuiet
import Derived.StillTailTactics
import Derived.OrdersHeld
import Derived.IntWalk
import Derived.Lib.Hide
import Derived.Lib.Bytealg
import Derived.Lib.Strings
import Derived.Lib.Walk
import Derived.Great.BuildSlice
set_option linter.unusedSectionVars false
set_option linter.unusedSimpArgs false
set_option linter.unusedVariables false
set_option linter.unnecessarySimpa false
namespace Go.Proofs.YtoicnghjjgkebaaGreatDoor
open Go.RowKit


abbrev Id := Int × Int
def idv (x : Id) : Value := .agg #[.int .i64 x.1, .int .i64 x.2]
def idCells : List Id → List Value
  | [] => []
  | x :: l => .int .i64 x.1 :: .int .i64 x.2 :: idCells l
def ideq (a b c d : Int) : Bool := a == c && b == d
theorem ideq_true {a b c d : Int} : ideq a b c d = true ↔ a = c ∧ b = d := by simp [ideq]
theorem ideq_false {a b c d : Int} : ideq a b c d = false ↔ ¬ (a = c ∧ b = d) := by
  rw [← ideq_true]; simp
theorem length_idCells (l : List Id) : (idCells l).length = l.length * 2 := by
  induction l with
  | nil => rfl
  | cons x l ih => simp [idCells, ih]; omega
theorem idCells_append (l m : List Id) : idCells (l ++ m) = idCells l ++ idCells m := by
  induction l with
  | nil => rfl
  | cons x l ih => simp [idCells, ih]
theorem idCells_get (l : List Id) (i : Nat) (h : i < l.length) : (idCells l)[i * 2]? = some (.int .i64 l[i].1) ∧ (idCells l)[i * 2 + 1]? = some (.int .i64 l[i].2) := by
  induction l generalizing i with
  | nil => simp at h
  | cons x l ih =>
    cases i with
    | zero => simp [idCells]
    | succ i =>
      have := ih i (by simpa using h)
      have e1 : (i + 1) * 2 = i * 2 + 1 + 1 := by omega
      have e2 : (i + 1) * 2 + 1 = (i * 2 + 1) + 1 + 1 := by omega
      rw [e2, e1]
      simpa [idCells] using this

/-- A tag for each block: 0: nobody's. -/
abbrev Tags := Nat → Nat
def tagAt (own : Tags) (k t : Nat) : Tags := fun j => if j = k then t else own j

structure Tr (own : Tags) (t : Nat) (w : World) (own' : Tags) (w' : World) : Prop where
  os : w'.os = w.os
  tape : w'.tape = w.tape
  output : w'.output = w.output
  size : w.heap.size ≤ w'.heap.size
  block : ∀ k, k < w.heap.size → own k ≠ t → w'.heap[k]? = w.heap[k]?
  same : ∀ k, k < w.heap.size → own' k = own k
  fresh : (∀ k, own k ≠ 0 → k < w.heap.size) → ∀ k, own' k ≠ 0 → k < w'.heap.size

section
variable {own own1 own2 : Tags} {t : Nat} {w w1 w2 : World}
theorem Tr.refl (own : Tags) (t : Nat) (w : World) : Tr own t w own w := ⟨rfl, rfl, rfl, Nat.le_refl _, fun _ _ _ => rfl, fun _ _ => rfl, fun h => h⟩
theorem Tr.trans (h : Tr own t w own1 w1) (k : Tr own1 t w1 own2 w2) : Tr own t w own2 w2 :=
  ⟨k.os.trans h.os, k.tape.trans h.tape, k.output.trans h.output, Nat.le_trans h.size k.size,
   fun j hj hne => (k.block j (Nat.lt_of_lt_of_le hj h.size) (by rw [h.same j hj]; exact hne)).trans (h.block j hj hne),
   fun j hj => (k.same j (Nat.lt_of_lt_of_le hj h.size)).trans (h.same j hj), fun hf => k.fresh (h.fresh hf)⟩
theorem Tr.below (h : Tr own t w own1 w1) (k : Below w1.heap.size w1 w2) : Tr own t w own1 w2 :=
  h.trans ⟨k.os, k.tape, k.output, k.size, fun j hj _ => k.block j hj, fun _ _ => rfl, fun hf j hj => Nat.lt_of_lt_of_le (hf j hj) k.size⟩
theorem Tr.alloc (h : Tr own t w own1 w1) (o : Obj) : Tr own t w own1 (w1.alloc o) := h.below ((Below.refl _ _).alloc (Nat.le_refl _) o)
theorem Tr.setCell (h : Tr own t w own1 w1) {p : Addr} (hp : own1 p.block = t ∨ w.heap.size ≤ p.block) (u : Value) : Tr own t w own1 (w1.setCell p u) :=
  ⟨h.os, h.tape, h.output, by simpa [World.setCell] using h.size,
   fun j hj hne => (Below.heap_setCell w1 p u j (by
     rintro rfl
     rcases hp with hp | hp
     · rw [h.same _ hj] at hp; exact hne hp
     · omega)).trans (h.block j hj hne), h.same, fun hf j hj => by have := h.fresh hf j hj; simpa [World.setCell] using this⟩
theorem Tr.grown (h : Tr own t w own1 w1) {row : Option Nat} (hg : w1.grownBy w2 row) (hr : ∀ k, row = some k → own1 k = t ∨ w.heap.size ≤ k) : Tr own t w own1 w2 :=
  ⟨hg.os.trans h.os, hg.tape.trans h.tape, hg.output.trans h.output, Nat.le_trans h.size hg.size,
   fun j hj hne => (hg.block j (Nat.lt_of_lt_of_le hj h.size) (by
     intro e
     rcases hr j e.symm with hp | hp
     · rw [h.same _ hj] at hp; exact hne hp
     · omega)).trans (h.block j hj hne), h.same, fun hf j hj => Nat.lt_of_lt_of_le (h.fresh hf j hj) hg.size⟩
/-- A new block gets a tag. -/
theorem Tr.tag (h : Tr own t w own1 w1) {k : Nat} (hk : w.heap.size ≤ k) (hk1 : k < w1.heap.size) (s : Nat) : Tr own t w (tagAt own1 k s) w1 :=
  ⟨h.os, h.tape, h.output, h.size, h.block, fun j hj => by unfold tagAt; rw [if_neg (by omega)]; exact h.same j hj,
   fun hf j hj => by
    unfold tagAt at hj
    split at hj
    · rename_i e; rw [e]; exact hk1
    · exact h.fresh hf j hj⟩
theorem Tr.cell (h : Tr own t w own1 w1) {p : Addr} (hp : p.block < w.heap.size) (hne : own p.block ≠ t) : w1.cell? p = w.cell? p := World.cell?_of_block (h.block _ hp hne)
theorem Tr.toBelow (h : Tr own t w own1 w1) (hne : ∀ k, k < w.heap.size → own k ≠ t) : Below w.heap.size w w1 :=
  ⟨h.os, h.tape, h.output, h.size, fun k hk => h.block k hk (hne k hk)⟩
end

/-- Whatever bears a tag is there. -/
def Fresh (own : Tags) (w : World) : Prop := ∀ k, own k ≠ 0 → k < w.heap.size
theorem Fresh.new {own : Tags} {w : World} (h : Fresh own w) {k : Nat} (hk : w.heap.size ≤ k) : own k = 0 := by
  by_cases e : own k = 0
  · exact e
  · have := h k e; omega
theorem Fresh.mono {own : Tags} {w w' : World} (h : Fresh own w) (hs : w.heap.size ≤ w'.heap.size) : Fresh own w' := fun k hk => Nat.lt_of_lt_of_le (h k hk) hs
theorem Fresh.tr {own own' : Tags} {t : Nat} {w w' : World} (h : Fresh own w) (k : Tr own t w own' w') : Fresh own' w' := k.fresh h

/-- What is tagged s lies as it lay. -/
def Same (s : Nat) (own : Tags) (w : World) (own' : Tags) (w' : World) : Prop := ∀ k, k < w.heap.size → own k = s → w'.heap[k]? = w.heap[k]? ∧ own' k = s
section
variable {own own1 own2 : Tags} {s t : Nat} {w w1 w2 : World}
theorem Tr.toSame (h : Tr own t w own1 w1) (hst : s ≠ t) : Same s own w own1 w1 := fun k hk ho => ⟨h.block k hk (by rw [ho]; exact hst), by rw [h.same k hk, ho]⟩
theorem Same.below (k : Below w.heap.size w w1) : Same s own w own w1 := fun j hj ho => ⟨k.block j hj, ho⟩
theorem Same.alloc (o : Obj) : Same s own w own (w.alloc o) := Same.below ((Below.refl _ _).alloc (Nat.le_refl _) o)
theorem Same.drew : Same s own w own w.drew := Same.below ((Below.refl _ _).drew)
theorem Same.setCell {p : Addr} (hp : own p.block ≠ s) (u : Value) : Same s own w own (w.setCell p u) := fun j _ ho => ⟨Below.heap_setCell w p u j (fun e => hp (by rw [← e]; exact ho)), ho⟩
end

/-- A row of the object t's own. -/
def Row (w : World) (own : Tags) (t : Nat) (e : TypeId) (size : Nat) (v : Value) (n : Nat) (xs : List Value) : Prop :=
  w.ownsRow 0 e size v n xs ∧ ∀ g, v.ownBlock = some g → own g = t
theorem Row.keep {w w' : World} {own own' : Tags} {t : Nat} {e : TypeId} {size : Nat} {v : Value} {n : Nat} {xs : List Value} (h : Row w own t e size v n xs) (k : Same t own w own' w') : Row w' own' t e size v n xs := by
  refine ⟨⟨h.1.1, ?_⟩, fun g hg => (k g (h.1.lt g hg).2 (h.2 g hg)).2⟩
  rcases h.1.2 with hn | ⟨g, cap, cur, hv, hb, hgg, rest⟩
  · exact .inl hn
  · have hg : v.ownBlock = some g := by rw [hv]; rfl
    exact .inr ⟨g, cap, cur, hv, hb, ((k g (h.1.lt g hg).2 (h.2 g hg)).1).trans hgg, rest⟩
theorem Row.kept {w w' : World} {own own' : Tags} {t : Nat} {e : TypeId} {size : Nat} {v : Value} {n : Nat} {xs : List Value} (h : Row w own t e size v n xs)
    (k : ∀ g, g < w.heap.size → v.ownBlock = some g → own g = t → w'.heap[g]? = w.heap[g]? ∧ own' g = t) : Row w' own' t e size v n xs := by
  refine ⟨⟨h.1.1, ?_⟩, fun g hg => (k g (h.1.lt g hg).2 hg (h.2 g hg)).2⟩
  rcases h.1.2 with hn | ⟨g, cap, cur, hv, hb, hgg, rest⟩
  · exact .inl hn
  · have hg : v.ownBlock = some g := by rw [hv]; rfl
    exact .inr ⟨g, cap, cur, hv, hb, ((k g (h.1.lt g hg).2 hg (h.2 g hg)).1).trans hgg, rest⟩
theorem Row.nil (w : World) (own : Tags) (t : Nat) (e : TypeId) (size : Nat) : Row w own t e size (.slice none 0 0) 0 [] :=
  ⟨World.ownsRow_nil w 0 e size, fun g hg => by simp [Value.ownBlock] at hg⟩
theorem Row.form {w : World} {own : Tags} {t : Nat} {e : TypeId} {size : Nat} {v : Value} {n : Nat} {xs : List Value} (h : Row w own t e size v n xs) :
    ∃ A c, v = .slice A n c ∧ n ≤ maxLen := by
  rcases h.1.2 with ⟨hv, h0⟩ | ⟨g, cap, cur, hv, _, _, h1, h2, _⟩
  · subst h0; exact ⟨none, 0, hv, Nat.zero_le _⟩
  · exact ⟨_, _, hv, Nat.le_trans h1 h2⟩

/-- A slice of ids that can be read; its block is tagged t. -/
def IdsR (w : World) (own : Tags) (t : Nat) (A : Option Addr) (l : List Id) : Prop :=
  l ≠ [] → ∃ b off, A = some ⟨b, off, none⟩ ∧ own b = t ∧ b < w.heap.size ∧ ∀ i (h : i < l.length), w.cell? ⟨b, off + i * 2, none⟩ = some (.int .i64 l[i].1) ∧ w.cell? ⟨b, off + i * 2 + 1, none⟩ = some (.int .i64 l[i].2)
theorem IdsR.keep {w w' : World} {own own' : Tags} {t : Nat} {A : Option Addr} {l : List Id} (h : IdsR w own t A l) (hs : w.heap.size ≤ w'.heap.size) (k : Same t own w own' w') : IdsR w' own' t A l := fun hl => by
  obtain ⟨b, off, hA, ho, hb, hc⟩ := h hl
  obtain ⟨k1, k2⟩ := k b hb ho
  refine ⟨b, off, hA, k2, Nat.lt_of_lt_of_le hb hs, fun i hi => ?_⟩
  rw [World.cell?_of_block (w := w) (a := ⟨b, off + i * 2, none⟩) k1, World.cell?_of_block (w := w) (a := ⟨b, off + i * 2 + 1, none⟩) k1]
  exact hc i hi
theorem Row.toIdsR {w : World} {own : Tags} {t : Nat} {e : TypeId} {A : Option Addr} {n c : Nat} {l : List Id} (h : Row w own t e 2 (.slice A n c) n (idCells l)) : n = l.length ∧ IdsR w own t A l := by
  have hn : n = l.length := by have := h.1.1; rw [length_idCells] at this; omega
  refine ⟨hn, fun hl => ?_⟩
  rcases h.1.2 with ⟨hv, h0⟩ | ⟨g, cap, cur, hv, _, hg, h1, _, hsz, htake⟩
  · exact absurd (List.length_eq_zero_iff.1 (by omega)) hl
  · have hA : A = some ⟨g, 0, none⟩ := by injection hv
    subst hA
    have ho : own g = t := h.2 g rfl
    refine ⟨g, 0, rfl, ho, (Array.getElem?_eq_some_iff.1 hg).1, fun i hi => ?_⟩
    obtain ⟨e1, e2⟩ := idCells_get l i hi
    have hcell := h.1.cells (g := g) rfl
    have add : ∀ j, (⟨g, 0, none⟩ : Addr).add j = ⟨g, 0 + j, none⟩ := fun j => by unfold Addr.add; split <;> simp_all
    have c1 := hcell _ _ e1
    have c2 := hcell _ _ e2
    rw [add] at c1 c2
    exact ⟨c1, by rw [← Nat.add_assoc] at c2; exact c2⟩
/-- A slice of one-cell values that can be read; its block is tagged t. -/
def OnesR (w : World) (own : Tags) (t : Nat) (A : Option Addr) (l : List Value) : Prop :=
  l ≠ [] → ∃ b off, A = some ⟨b, off, none⟩ ∧ own b = t ∧ b < w.heap.size ∧ ∀ i (h : i < l.length), w.cell? ⟨b, off + i, none⟩ = some l[i]
theorem Row.toOnesR {w : World} {own : Tags} {t : Nat} {e : TypeId} {A : Option Addr} {n c : Nat} {l : List Value} (h : Row w own t e 1 (.slice A n c) n l) : n = l.length ∧ OnesR w own t A l := by
  have hn : n = l.length := by have := h.1.1; omega
  refine ⟨hn, fun hl => ?_⟩
  rcases h.1.2 with ⟨hv, h0⟩ | ⟨g, cap, cur, hv, _, hg, h1, _, hsz, htake⟩
  · exact absurd (List.length_eq_zero_iff.1 (by omega)) hl
  · have hA : A = some ⟨g, 0, none⟩ := by injection hv
    subst hA
    refine ⟨g, 0, rfl, h.2 g rfl, (Array.getElem?_eq_some_iff.1 hg).1, fun i hi => ?_⟩
    have c1 := h.1.cells (g := g) rfl i _ (List.getElem?_eq_getElem hi)
    have add : (⟨g, 0, none⟩ : Addr).add i = ⟨g, 0 + i, none⟩ := by unfold Addr.add; split <;> simp_all
    rw [add] at c1
    exact c1
theorem bodyPost_none {P : Program} {fn : Func} {R : Ending → World → Prop} {a : Act} {w : World} (h : fn.results = #[]) (hd : a.defers = []) (hR : R (.returned (.tuple #[])) w) : bodyPost P fn R .ret a w :=
  bodyPost_ret (results_none h _ _ _) hd hR

/-! ### a region that draws its order: reads first, then a tail in one order -/
theorem still_of_quiet {P : Program} {ops : Array Oper} {W : World} {Q : Act → Prop} : ∀ (l : List Oper) (a : Act), wpQuiet P ops (fun w' => w' = W) Q l a → wpStill P ops W Q l a
  | [], _, h => h
  | o :: rest, a, h => by
    unfold wpQuiet at h
    unfold wpStill
    split
    · rename_i hw
      rw [if_pos hw] at h
      obtain ⟨v, h1, h2⟩ := h
      have h3 := h1 W rfl
      have h4 := still_of_quiet rest _ h2
      unfold Oper.quietAt at h3
      unfold Oper.still
      generalize (execOp a.eval o).run P W = r at *
      cases r with
      | ok n w' =>
        cases n <;> simp only [Oper.quietUpon] at h3 <;> simp only [Oper.stillUpon]
        case enter f args => exact ⟨h3.1, v, h3.2, h4⟩
        case value u => obtain ⟨rfl, rfl⟩ := h3; exact ⟨rfl, h4⟩
        case skip => obtain ⟨rfl, rfl⟩ := h3; exact ⟨rfl, h4⟩
      | halt x w' => simp only [Oper.quietUpon] at h3
    · rename_i hw
      rw [if_neg hw] at h
      exact still_of_quiet rest _ h
theorem region_tail {P : Program} {id : Nat} {Q : Exit → Act → World → Prop} {a : Act} {w : World} {l : List Oper} (n : Nat) (hm : P.follows .mixedOrders = true) (hB : Region.lexTailB .any l.toArray n = true)
    (h : wpQuiet P l.toArray (fun w' => w' = w.drew) (fun a' => wpList P l.toArray Q (l.drop n) a' w.drew) (l.take n) a) : (Code.region id l.toArray true).wp P Q a w :=
  wp_region_still_tail n hm hB (still_of_quiet _ _ h)

/-- Operations that read, or only compute, and hand a value on. -/
def plainOp : Op → Bool
  | .move _ | .assign _ | .pick .. | .load .. | .nilCheck _ | .binOp .. | .unOp .. | .fieldAddr .. | .field .. | .indexAddr .. | .index .. | .lookup .. | .extract .. | .slice .. | .convert .. | .build .. => true
  | .call { callee := .builtin .len, .. } => true
  | .call { callee := .builtin .max, .. } => true
  | _ => false
theorem ok_value {P : Program} {s : Sem Value} {w w' : World} {n : Next} (h : (do pure (.value (← s)) : Sem Next).run P w = .ok n w') : ∃ v, n = .value v := by
  rw [Sem.run_bind] at h
  cases hr : s.run P w with
  | ok v w1 => rw [hr] at h; simp at h; exact ⟨v, h.1.symm⟩
  | halt x w1 => rw [hr] at h; simp [Result.andThen] at h
theorem plain_value {P : Program} {ρ : Operand → Value} {o : Oper} (hp : plainOp o.op = true) {w w' : World} {n : Next} (h : (execOp ρ o).run P w = .ok n w') : ∃ v, n = .value v := by
  obtain ⟨dst, op, type, pos, after, guard⟩ := o
  cases op
  case call c =>
    obtain ⟨cal, args, ats⟩ := c
    cases cal
    case builtin b =>
      cases b <;> simp [plainOp] at hp
      all_goals exact ok_value h
    all_goals simp [plainOp] at hp
  case nilCheck x =>
    simp only [execOp] at h
    split at h
    · simp [runtimePanic, goPanic, Sem.run_bind, run_program, Sem.run] at h
    · simp [runtimePanic, goPanic, Sem.run_bind, run_program, Sem.run] at h
    · simp [runtimePanic, goPanic, Sem.run_bind, run_program, Sem.run] at h
    · split at h
      · simp [runtimePanic, goPanic, Sem.run_bind, run_program, Sem.run] at h
      · rw [Sem.run_bind, run_program] at h
        simp only [Result.andThen_ok, Sem.run_bind] at h
        generalize (nilAhead _ _ _ _).run P w = r at h
        cases r with
        | ok q w1 =>
          simp only [Result.andThen_ok] at h
          split at h
          · simp [unsupported, Sem.run, Result.andThen] at h
          · simp at h; exact ⟨_, h.1.symm⟩
        | halt x w1 => simp [Result.andThen] at h
      · simp at h; exact ⟨_, h.1.symm⟩
    · simp at h; exact ⟨_, h.1.symm⟩
  case pick c a b =>
    simp only [execOp, Sem.run_bind] at h
    generalize (asBool (ρ c)).run P w = r at h
    cases r with
    | ok q w1 => simp at h; exact ⟨_, h.1.symm⟩
    | halt x w1 => simp [Result.andThen] at h
  case move x => simp [execOp] at h; exact ⟨_, h.1.symm⟩
  case assign x => simp [execOp] at h; exact ⟨_, h.1.symm⟩
  all_goals first | (simp [plainOp] at hp; done) | exact ok_value h

section
variable {P : Program} {ops : Array Oper} {Q : Exit → Act → World → Prop} {md : Region.Mode} {S : World → Prop} {need : Nat → Bool}
/-- Whatever order is picked; S holds behind each operation of which 'need' says so. -/
def wpAnyN (P : Program) (md : Region.Mode) (ops : Array Oper) (Q : Exit → Act → World → Prop) (S : World → Prop) (need : Nat → Bool) : Nat → Array Bool → Act → World → Prop
  | 0, listed, a, w => Region.ready md ops listed = [] ∧ Q .normal a w
  | fuel + 1, listed, a, w =>
    (Region.ready md ops listed = [] → Q .normal a w) ∧
    ∀ i ∈ Region.ready md ops listed, wpOp P ops Q i (fun a' w' => (need i = true → S w') ∧ wpAnyN P md ops Q S need fuel (listed.setIfInBounds i true) a' w') a w
theorem wpAny_of_N : ∀ (fuel : Nat) (listed : Array Bool) (a : Act) (w : World), wpAnyN P md ops Q S need fuel listed a w → wpAny P md ops Q fuel listed a w
  | 0, _, _, _, h => h
  | fuel + 1, _, _, _, h => ⟨h.1, fun i hi => wpOp_mono (fun a' w' h' => wpAny_of_N fuel _ a' w' h'.2) (h.2 i hi)⟩
theorem wpAnyN_first {i : Nat} {oi : Oper} {v : Value} (hi : ops[i]? = some oi) (hsel : ∀ (j : Nat) (o : Oper) cs b, ops[j]? = some o → o.op ≠ .select cs b)
    (hQ : ∀ c a w, Q (.panic c) (a.put oi.dst v) w → Q (.panic c) a w)
    (hneed : ∀ j oj, ops[j]? = some oj → need j = false → ∃ e ∈ oj.after, Region.binds md e = true ∧ e.on = i) :
    ∀ (fuel : Nat) (listed : Array Bool) (a : Act) (w : World),
      (∀ j oj, ops[j]? = some oj → j ≠ i → listed.getD j true = false → (∀ e ∈ oj.after, Region.binds md e = true → e.on ≠ i) → oi.apart ops oj = true) →
      i ∈ Region.ready md ops listed → YieldsIf P ops S oi v a → S w →
      wpAnyN P md ops Q S need fuel (listed.setIfInBounds i true) (a.put oi.dst v) w → wpAnyN P md ops Q S need (fuel + 1) listed a w := by
  intro fuel
  induction fuel with
  | zero =>
    intro listed a w _ hr hy hS H
    refine ⟨fun h => (by rw [h] at hr; cases hr), fun j hj => ?_⟩
    by_cases hji : j = i
    · subst hji; exact hy.wpOp hi hS ⟨fun _ => hS, H⟩
    · have := ready_mono hj hji
      rw [H.1] at this
      cases this
  | succ fuel ih =>
    intro listed a w hfree hr hy hS H
    refine ⟨fun h => (by rw [h] at hr; cases hr), fun j hj => ?_⟩
    by_cases hji : j = i
    · subst hji; exact hy.wpOp hi hS ⟨fun _ => hS, H⟩
    · have h1 := H.2 j (ready_mono hj hji)
      obtain ⟨hjun, oj, hoj, hall⟩ := mem_ready.1 hj
      have hnot : ∀ e ∈ oj.after, Region.binds md e = true → e.on ≠ i := fun e he hb heq => by
        have h1 := hall e he hb
        have h0 := (mem_ready.1 hr).1
        rw [heq] at h1
        rcases Nat.lt_or_ge i listed.size with h' | h'
        · simp [h'] at h0 h1; rw [h0] at h1; cases h1
        · simp [Array.getElem?_eq_none h'] at h1
      have hn : need j = true := by
        cases hnj : need j with
        | true => rfl
        | false =>
          obtain ⟨e, he, hb, heq⟩ := hneed j oj hoj hnj
          exact absurd heq (hnot e he hb)
      have h2 := wpOp_putIf hoj (hfree j oj hoj hji hjun hnot) (fun cs b => hsel i oi cs b hi) (fun cs b => hsel j oj cs b hoj) hQ hy h1
      have hfree' : ∀ k ok, ops[k]? = some ok → k ≠ i → (listed.setIfInBounds j true).getD k true = false →
          (∀ e ∈ ok.after, Region.binds md e = true → e.on ≠ i) → oi.apart ops ok = true := fun k ok hk hki hun hno => by
        refine hfree k ok hk hki ?_ hno
        by_cases hjk : j = k
        · subst hjk; exact hjun
        · rw [getD_set_ne true hjk] at hun; exact hun
      refine wpOp_mono (fun a' w' h3 => ⟨h3.2.1, ih (listed.setIfInBounds j true) a' w' hfree' (ready_mono hr (Ne.symm hji)) h3.1 (h3.2.1 hn) ?_⟩) h2
      rw [Array.setIfInBounds_comm _ _ hji]
      exact h3.2.2
end

/-- The tail: behind each of its first operations S holds. -/
def tailWp (P : Program) (ops : Array Oper) (Q : Exit → Act → World → Prop) (S : World → Prop) : List Oper → List Oper → Act → World → Prop
  | [], rest, a, w => wpList P ops Q rest a w
  | o :: ls, rest, a, w => wpList P ops (Exit.then (fun a' w' => S w' ∧ tailWp P ops Q S ls rest a' w') Q) [o] a w

/-- The static look: heads 0 .. n-1, one behind the other; each may be taken first; whoever needs no S has an edge to each head; behind the heads one order alone. -/
def heldHead (ops : Array Oper) (g : Nat) : Nat → Nat → Array Bool → Bool
  | 0, k, listed => Region.seqB .any ops g k listed
  | f + 1, k, listed => (Region.ready .any ops listed).contains k && Region.free .any ops listed k && ((ops[k]?).map fun o => plainOp o.op).getD false && heldHead ops g f (k + 1) (listed.setIfInBounds k true)
def heldB (ops : Array Oper) (n m : Nat) : Bool :=
  Region.noSelect ops && decide (n + m ≤ ops.size) &&
  ((List.range ops.size).all fun j => decide (j < n + m) || (List.range n).all fun i => ((ops[j]?).map fun o => o.after.any fun e => Region.binds .any e && e.on == i).getD true) &&
  heldHead ops (ops.size - n) n 0 (Array.replicate ops.size false)

theorem wpAnyN_tail {P : Program} {ops : Array Oper} {Q : Exit → Act → World → Prop} {S : World → Prop} {need : Nat → Bool} :
    ∀ (late rest : List Oper) (k : Nat) (listed : Array Bool) (a : Act) (w : World), (∀ j, (late ++ rest)[j]? = ops[k + j]?) → (∀ j, k + late.length ≤ j → need j = false) →
    Region.seqB .any ops (late ++ rest).length k listed = true → tailWp P ops Q S late rest a w → wpAnyN P .any ops Q S need (late ++ rest).length listed a w
  | [], [], k, listed, a, w, _, _, hB, h => by
    simp only [List.nil_append, List.length_nil, Region.seqB, List.isEmpty_iff] at hB ⊢
    exact ⟨hB, by simpa [tailWp, wpList] using h⟩
  | [], o :: rest, k, listed, a, w, hl, hn, hB, h => by
    have h0 : ops[k]? = some o := by simpa using (hl 0).symm
    simp only [List.nil_append, List.length_cons, Region.seqB, Bool.and_eq_true, decide_eq_true_eq] at hB ⊢
    refine ⟨fun h1 => (by rw [hB.1] at h1; cases h1), fun i hi => ?_⟩
    rw [hB.1] at hi
    have hik : i = k := by simpa using hi
    subst hik
    have hw : wpOp P ops Q i (wpList P ops Q rest) a w := by unfold wpOp; simp only [h0]; exact h
    refine wpOp_mono (fun a' w' h' => ⟨fun hc => (by rw [hn i (by simp)] at hc; cases hc), ?_⟩) hw
    exact wpAnyN_tail [] rest (i + 1) _ a' w' (fun j => by have := hl (j + 1); simpa [Nat.add_assoc, Nat.add_comm 1 j] using this) (fun j hj => hn j (by simp at hj ⊢; omega)) hB.2 h'
  | o :: late, rest, k, listed, a, w, hl, hn, hB, h => by
    have h0 : ops[k]? = some o := by simpa using (hl 0).symm
    simp only [List.cons_append, List.length_cons, Region.seqB, Bool.and_eq_true, decide_eq_true_eq] at hB ⊢
    refine ⟨fun h1 => (by rw [hB.1] at h1; cases h1), fun i hi => ?_⟩
    rw [hB.1] at hi
    have hik : i = k := by simpa using hi
    subst hik
    have hQ : ∀ (e : Exit) (a : Act) (w : World), e ≠ .normal → Exit.then (fun a' w' => S w' ∧ tailWp P ops Q S late rest a' w') Q e a w → Q e a w := fun e a w he hq => by cases e <;> first | exact absurd rfl he | exact hq
    have hw : wpOp P ops Q i (fun a' w' => S w' ∧ tailWp P ops Q S late rest a' w') a w := by
      unfold wpOp; simp only [h0]
      have h' : wpList P ops (Exit.then (fun a' w' => S w' ∧ tailWp P ops Q S late rest a' w') Q) [o] a w := h
      unfold wpList at h'
      split
      · rename_i hwt
        rw [if_pos hwt] at h'
        refine h'.imp (fun hh => ?_) (fun hh => ⟨hh.1, ?_⟩)
        · unfold Oper.wp at hh ⊢
          generalize (execOp a.eval o).run P w = r at *
          cases r with
          | ok x w' =>
            cases x <;> simp only [Oper.upon] at hh ⊢
            case enter f args =>
              refine Calls.mono hh fun e w'' he => ?_
              cases e with
              | returned v => simpa [wpList, Exit.then] using he
              | panicked c => exact he
              | outgrown => obtain ⟨a0, w0, hq⟩ := he; exact ⟨a0, w0, hq⟩
            case row r args => exact Rows.mono hh fun v w'' he => by simpa [wpList, Exit.then] using he
            all_goals simpa [wpList, Exit.then] using hh
          | halt x w' =>
            cases x <;> simp only [Oper.upon] at hh ⊢
            exact hh
        · obtain ⟨a0, w0, hq⟩ := hh.2; exact ⟨a0, w0, hq⟩
      · rename_i hwt
        rw [if_neg hwt] at h'
        simpa [wpList, Exit.then] using h'
    refine wpOp_mono (fun a' w' h' => ⟨fun _ => h'.1, ?_⟩) hw
    exact wpAnyN_tail late rest (i + 1) _ a' w' (fun j => by have := hl (j + 1); simpa [Nat.add_assoc, Nat.add_comm 1 j] using this) (fun j hj => hn j (by simp only [List.length_cons]; omega)) hB.2 h'.2

theorem wpAnyN_lex {P : Program} {ops : Array Oper} {Q : Exit → Act → World → Prop} {S : World → Prop} {need : Nat → Bool} {g n : Nat} {w : World} (hsel : Region.noSelect ops = true) (hS : S w)
    (hQ : ∀ c (d : Tmp) (v : Value) a w, Q (.panic c) (a.put (some d) v) w → Q (.panic c) a w)
    (hneed : ∀ i, i < n → ∀ j oj, ops[j]? = some oj → need j = false → ∃ e ∈ oj.after, Region.binds .any e = true ∧ e.on = i)
    {T : Act → Prop} (hT : ∀ listed a, Region.seqB .any ops g n listed = true → T a → wpAnyN P .any ops Q S need g listed a w) :
    ∀ (l : List Oper) (k : Nat) (listed : Array Bool) (a : Act), (∀ j, j < l.length → l[j]? = ops[k + j]?) → k + l.length = n →
    heldHead ops g l.length k listed = true → wpQuiet P ops S T l a → wpAnyN P .any ops Q S need (l.length + g) listed a w
  | [], k, listed, a, _, hk, hB, h => by
    have : k = n := by simpa using hk
    subst this
    simp only [List.length_nil, Nat.zero_add]
    exact hT listed a (by simpa [heldHead] using hB) h
  | o :: l, k, listed, a, hl, hk, hB, h => by
    have h0 : ops[k]? = some o := by simpa using (hl 0 (by simp)).symm
    simp only [List.length_cons, heldHead, Bool.and_eq_true, h0, Option.map_some, Option.getD_some] at hB
    obtain ⟨⟨⟨hr, hf⟩, hp⟩, hB'⟩ := hB
    have hkn : k < n := by simp only [List.length_cons] at hk; omega
    obtain ⟨v, hy, hK⟩ : ∃ v, YieldsIf P ops S o v a ∧ wpQuiet P ops S T l (a.put o.dst v) := by
      unfold wpQuiet at h
      split at h
      · rename_i hwt
        obtain ⟨v, h1, h2⟩ := h
        refine ⟨v, .inl ⟨hwt, fun w hw => ?_⟩, h2⟩
        have h3 := h1 w hw
        unfold Oper.quietAt at h3
        cases hrun : (execOp a.eval o).run P w with
        | ok x w' =>
          obtain ⟨u, rfl⟩ := plain_value hp hrun
          rw [hrun] at h3
          simp only [Oper.quietUpon] at h3
          obtain ⟨rfl, rfl⟩ := h3
          rfl
        | halt x w' => rw [hrun] at h3; simp [Oper.quietUpon] at h3
      · rename_i hwt
        exact ⟨undef, .inr ⟨by simpa using hwt, rfl⟩, h⟩
    have key := wpAnyN_lex hsel hS hQ hneed hT l (k + 1) (listed.setIfInBounds k true) (a.put o.dst v) (fun j hj => by have := hl (j + 1) (by simp; omega); simpa [Nat.add_assoc, Nat.add_comm 1 j] using this) (by simp only [List.length_cons] at hk; omega) hB' hK
    rw [List.length_cons, show l.length + 1 + g = (l.length + g) + 1 by omega]
    exact wpAnyN_first h0 (Region.noSelect_spec hsel) (fun c a w hq => by cases hd : o.dst with | none => (rw [hd] at hq; exact hq) | some d => (rw [hd] at hq; exact hQ c d v a w hq)) (hneed k hkn) (l.length + g) listed a w (Region.free_spec h0 hf) (by simpa using hr) hy hS key

/-- THE LAW. 'hQ' is 'fun _ _ _ _ _ h => h'. -/
theorem region_heldS {P : Program} {id : Nat} {Q : Exit → Act → World → Prop} {a : Act} {w : World} {l : List Oper} (S : World → Prop) (n m : Nat) (hm : P.follows .mixedOrders = true) (hB : heldB l.toArray n m = true)
    (hQ : ∀ c (d : Tmp) (v : Value) a w, Q (.panic c) (a.put (some d) v) w → Q (.panic c) a w) (hS : S w.drew)
    (h : wpQuiet P l.toArray S (fun a' => tailWp P l.toArray Q S ((l.drop n).take m) (l.drop (n + m)) a' w.drew) (l.take n) a) : (Code.region id l.toArray true).wp P Q a w := by
  simp only [heldB, Bool.and_eq_true, decide_eq_true_eq, List.all_eq_true, Bool.or_eq_true, List.mem_range] at hB
  obtain ⟨⟨⟨hsel, hnm⟩, hed⟩, hhead⟩ := hB
  simp only [List.size_toArray] at hnm hed hhead
  have htl : (l.take n).length = n := by simp; omega
  have hlate : ((l.drop n).take m).length = m := by simp; omega
  have happ : (l.drop n).take m ++ l.drop (n + m) = l.drop n := by rw [← List.drop_drop]; exact List.take_append_drop m (l.drop n)
  refine wp_region_any hm (wpAny_of_N (S := S) (need := fun j => decide (j < n + m)) _ _ _ _ ?_)
  have key := wpAnyN_lex (P := P) (Q := Q) (S := S) (need := fun j => decide (j < n + m)) (g := l.length - n) (n := n) (w := w.drew) hsel hS hQ
    (fun i hi j oj hj hnj => by
      have hjl : j < l.length := by have := (Array.getElem?_eq_some_iff.1 hj).1; simpa using this
      have h1 := hed j hjl
      have hnj' : ¬ j < n + m := by simpa using hnj
      rcases h1 with h1 | h1
      · exact absurd h1 hnj'
      · have h2 := h1 i hi
        rw [hj] at h2
        simp only [Option.map_some, Option.getD_some, Array.any_eq_true] at h2
        obtain ⟨x, hx, hxe⟩ := h2
        simp only [Bool.and_eq_true, beq_iff_eq] at hxe
        exact ⟨_, Array.getElem_mem hx, hxe.1, hxe.2⟩)
    (T := fun a' => tailWp P l.toArray Q S ((l.drop n).take m) (l.drop (n + m)) a' w.drew)
    (fun listed a' hs ht => by
      have := wpAnyN_tail (P := P) (ops := l.toArray) (Q := Q) (S := S) (need := fun j => decide (j < n + m)) ((l.drop n).take m) (l.drop (n + m)) n listed a' w.drew
        (fun j => by rw [happ]; simp [List.getElem?_drop]) (fun j hj => by rw [hlate] at hj; simpa using hj) (by rw [happ]; simpa using hs) ht
      rw [happ] at this
      simpa using this)
    (l.take n) 0 (Array.replicate l.length false) a (fun j hj => by
      have hj' : j < n := by rw [htl] at hj; exact hj
      simp [hj']) (by simpa using htl) (by rw [htl]; exact hhead) h
  rw [htl, show n + (l.length - n) = l.length by omega] at key
  simpa using key
/-- These cells hold these values. -/
def AllCells (w : World) : List (Addr × Value) → Prop
  | [] => True
  | c :: cs => w.cell? c.1 = some c.2 ∧ AllCells w cs
theorem AllCells.alloc {w : World} : ∀ {cells : List (Addr × Value)}, AllCells w cells → ∀ o : Obj, AllCells (w.alloc o) cells
  | [], _, _ => trivial
  | c :: _, h, o => ⟨(World.cell?_alloc_lt w o c.1 (World.block_lt_of_cell? w c.1 h.1)).trans h.1, AllCells.alloc h.2 o⟩
theorem AllCells.drew {w : World} : ∀ {cells : List (Addr × Value)}, AllCells w cells → AllCells w.drew cells
  | [], _ => trivial
  | _ :: _, h => ⟨h.1, AllCells.drew h.2⟩
structure HeldC (cells : List (Addr × Value)) where
  w : World
  ok : AllCells w cells
/-- The same, S being 'these cells hold these values'; the facts on the cells come as 'hu', to be laid open by 'simp only [AllCells] at hu'. -/
theorem region_held {P : Program} {id : Nat} {Q : Exit → Act → World → Prop} {a : Act} {w : World} {l : List Oper} (cells : List (Addr × Value)) (n m : Nat) (hm : P.follows .mixedOrders = true) (hB : heldB l.toArray n m = true)
    (hQ : ∀ c (d : Tmp) (v : Value) a w, Q (.panic c) (a.put (some d) v) w → Q (.panic c) a w) (hS : AllCells w.drew cells)
    (h : Nonempty (HeldC cells) → (∀ u : HeldC cells, AllCells u.w cells) → wpQuiet P l.toArray (fun w' => ∃ u : HeldC cells, w' = u.w) (fun a' => tailWp P l.toArray Q (fun w' => AllCells w' cells) ((l.drop n).take m) (l.drop (n + m)) a' w.drew) (l.take n) a) : (Code.region id l.toArray true).wp P Q a w := by
  have e : (fun w' : World => ∃ u : HeldC cells, w' = u.w) = (fun w' => AllCells w' cells) := by
    funext w'
    exact propext ⟨fun ⟨u, hu⟩ => hu ▸ u.ok, fun hw => ⟨⟨w', hw⟩, rfl⟩⟩
  have h' := h ⟨⟨w.drew, hS⟩⟩ (fun u => u.ok)
  rw [e] at h'
  exact region_heldS (fun w' => AllCells w' cells) n m hm hB hQ hS h'

/-- These may be taken first, one behind the other. -/
def headsB (ops : Array Oper) (listed : Array Bool) : List Nat → Bool
  | [] => true
  | k :: ks => (Region.ready .any ops listed).contains k && Region.free .any ops listed k && ((ops[k]?).map fun o => plainOp o.op).getD false && headsB ops (listed.setIfInBounds k true) ks
def listedAll (listed : Array Bool) : List Nat → Array Bool
  | [] => listed
  | k :: ks => listedAll (listed.setIfInBounds k true) ks
/-- Whoever needs no S has an edge to each of these. -/
def needB (ops : Array Oper) (need : List Nat) (order : List Nat) : Bool :=
  (List.range ops.size).all fun j => need.contains j || order.all fun i => ((ops[j]?).map fun o => o.after.any fun e => Region.binds .any e && e.on == i).getD true

theorem needB_spec {ops : Array Oper} {need order : List Nat} (h : needB ops need order = true) :
    ∀ i ∈ order, ∀ j oj, ops[j]? = some oj → need.contains j = false → ∃ e ∈ oj.after, Region.binds .any e = true ∧ e.on = i := by
  intro i hi j oj hj hn
  simp only [needB, List.all_eq_true, List.mem_range, Bool.or_eq_true] at h
  have h1 := h j (by have := (Array.getElem?_eq_some_iff.1 hj).1; exact this)
  rcases h1 with h1 | h1
  · rw [hn] at h1; cases h1
  · have h2 := h1 i hi
    rw [hj] at h2
    simp only [Option.map_some, Option.getD_some, Array.any_eq_true] at h2
    obtain ⟨x, hx, hxe⟩ := h2
    simp only [Bool.and_eq_true, beq_iff_eq] at hxe
    exact ⟨_, Array.getElem_mem hx, hxe.1, hxe.2⟩

theorem anyN_heads' {P : Program} {ops : Array Oper} {Q : Exit → Act → World → Prop} {S : World → Prop} {need : Nat → Bool} {g : Nat} {w : World} (hsel : Region.noSelect ops = true) (hS : S w)
    (hQ : ∀ c (d : Tmp) (v : Value) a w, Q (.panic c) (a.put (some d) v) w → Q (.panic c) a w) :
    ∀ (l : List Oper) (order : List Nat) (listed : Array Bool) (a : Act), order.map (ops[·]?) = l.map some →
    (∀ i ∈ order, ∀ j oj, ops[j]? = some oj → need j = false → ∃ e ∈ oj.after, Region.binds .any e = true ∧ e.on = i) →
    headsB ops listed order = true → wpQuiet P ops S (fun a' => wpAnyN P .any ops Q S need g (listedAll listed order) a' w) l a → wpAnyN P .any ops Q S need (l.length + g) listed a w
  | [], order, listed, a, hl, _, _, h => by
    have ho : order = [] := by simpa using hl
    subst ho
    simpa [listedAll, wpQuiet] using h
  | o :: l, [], listed, a, hl, _, _, h => by simp at hl
  | o :: l, k :: ks, listed, a, hl, hneed, hB, h => by
    simp only [List.map_cons, List.cons.injEq] at hl
    obtain ⟨h0, hl'⟩ := hl
    simp only [headsB, Bool.and_eq_true, h0, Option.map_some, Option.getD_some] at hB
    obtain ⟨⟨⟨hr, hf⟩, hp⟩, hB'⟩ := hB
    obtain ⟨v, hy, hK⟩ : ∃ v, YieldsIf P ops S o v a ∧ wpQuiet P ops S (fun a' => wpAnyN P .any ops Q S need g (listedAll listed (k :: ks)) a' w) l (a.put o.dst v) := by
      unfold wpQuiet at h
      split at h
      · rename_i hwt
        obtain ⟨v, h1, h2⟩ := h
        refine ⟨v, .inl ⟨hwt, fun w hw => ?_⟩, h2⟩
        have h3 := h1 w hw
        unfold Oper.quietAt at h3
        cases hrun : (execOp a.eval o).run P w with
        | ok x w' =>
          obtain ⟨u, rfl⟩ := plain_value hp hrun
          rw [hrun] at h3
          simp only [Oper.quietUpon] at h3
          obtain ⟨rfl, rfl⟩ := h3
          rfl
        | halt x w' => rw [hrun] at h3; simp [Oper.quietUpon] at h3
      · rename_i hwt
        exact ⟨undef, .inr ⟨by simpa using hwt, rfl⟩, h⟩
    have key := anyN_heads' hsel hS hQ l ks (listed.setIfInBounds k true) (a.put o.dst v) hl' (fun i hi => hneed i (List.mem_cons_of_mem _ hi)) hB' hK
    rw [List.length_cons, show l.length + 1 + g = (l.length + g) + 1 by omega]
    exact wpAnyN_first h0 (Region.noSelect_spec hsel) (fun c a w hq => by cases hd : o.dst with | none => (rw [hd] at hq; exact hq) | some d => (rw [hd] at hq; exact hQ c d v a w hq)) (hneed k (by simp)) (l.length + g) listed a w (Region.free_spec h0 hf) (by simpa using hr) hy hS key

/-- One operation, as the walk takes it. -/
theorem wpOp_of_list {P : Program} {ops : Array Oper} {Q : Exit → Act → World → Prop} {i : Nat} {o : Oper} {K : Act → World → Prop} {a : Act} {w : World} (h0 : ops[i]? = some o)
    (h' : wpList P ops (Exit.then K Q) [o] a w) : wpOp P ops Q i K a w := by
  unfold wpOp; simp only [h0]
  unfold wpList at h'
  split
  · rename_i hwt
    rw [if_pos hwt] at h'
    refine h'.imp (fun hh => ?_) (fun hh => ⟨hh.1, ?_⟩)
    · unfold Oper.wp at hh ⊢
      generalize (execOp a.eval o).run P w = r at *
      cases r with
      | ok x w' =>
        cases x <;> simp only [Oper.upon] at hh ⊢
        case enter f args =>
          refine Calls.mono hh fun e w'' he => ?_
          cases e with
          | returned v => simpa [wpList, Exit.then] using he
          | panicked c => exact he
          | outgrown => obtain ⟨a0, w0, hq⟩ := he; exact ⟨a0, w0, hq⟩
        case row r args => exact Rows.mono hh fun v w'' he => by simpa [wpList, Exit.then] using he
        all_goals simpa [wpList, Exit.then] using hh
      | halt x w' =>
        cases x <;> simp only [Oper.upon] at hh ⊢
        exact hh
    · obtain ⟨a0, w0, hq⟩ := hh.2; exact ⟨a0, w0, hq⟩
  · rename_i hwt
    rw [if_neg hwt] at h'
    simpa [wpList, Exit.then] using h'

/-- Whichever of those that may come up comes up. -/
theorem anyN_one {P : Program} {ops : Array Oper} {Q : Exit → Act → World → Prop} {S : World → Prop} {need : Nat → Bool} {g : Nat} {listed : Array Bool} {a : Act} {w : World} (i : Nat) (o : Oper)
    (hr : Region.ready .any ops listed = [i]) (h0 : ops[i]? = some o)
    (h : wpList P ops (Exit.then (fun a' w' => (need i = true → S w') ∧ wpAnyN P .any ops Q S need g (listed.setIfInBounds i true) a' w') Q) [o] a w) : wpAnyN P .any ops Q S need (g + 1) listed a w :=
  ⟨fun h1 => (by rw [hr] at h1; cases h1), fun j hj => by
    rw [hr] at hj
    have : j = i := by simpa using hj
    subst this
    exact wpOp_of_list h0 h⟩
theorem anyN_two {P : Program} {ops : Array Oper} {Q : Exit → Act → World → Prop} {S : World → Prop} {need : Nat → Bool} {g : Nat} {listed : Array Bool} {a : Act} {w : World} (i j : Nat) (o u : Oper)
    (hr : Region.ready .any ops listed = [i, j]) (h0 : ops[i]? = some o) (h1 : ops[j]? = some u)
    (h : wpList P ops (Exit.then (fun a' w' => (need i = true → S w') ∧ wpAnyN P .any ops Q S need g (listed.setIfInBounds i true) a' w') Q) [o] a w)
    (k : wpList P ops (Exit.then (fun a' w' => (need j = true → S w') ∧ wpAnyN P .any ops Q S need g (listed.setIfInBounds j true) a' w') Q) [u] a w) : wpAnyN P .any ops Q S need (g + 1) listed a w :=
  ⟨fun h1 => (by rw [hr] at h1; cases h1), fun m hm => by
    rw [hr] at hm
    simp only [List.mem_cons, List.not_mem_nil, or_false] at hm
    rcases hm with rfl | rfl
    · exact wpOp_of_list h0 h
    · exact wpOp_of_list h1 k⟩
/-- One order alone is left, and nobody reads any more. -/
theorem anyN_rest {P : Program} {ops : Array Oper} {Q : Exit → Act → World → Prop} {S : World → Prop} {need : Nat → Bool} {g : Nat} {listed : Array Bool} {a : Act} {w : World} (k : Nat) (rest : List Oper)
    (hg : rest.length = g) (hl : ∀ j, j < g → rest[j]? = ops[k + j]?) (hk : ops.size = k + g) (hn : ∀ j, j < g → need (k + j) = false) (hB : Region.seqB .any ops g k listed = true) (h : wpList P ops Q rest a w) : wpAnyN P .any ops Q S need g listed a w := by
  subst hg
  have := wpAnyN_tail (P := P) (ops := ops) (Q := Q) (S := S) (need := fun j => decide (j < k) && need j) [] rest k listed a w (fun j => by
    simp only [List.nil_append]
    by_cases hj : j < rest.length
    · exact hl j hj
    · rw [List.getElem?_eq_none (by omega), Array.getElem?_eq_none (by omega)]) (fun j hj => by simp at hj; simp; omega) (by simpa using hB) h
  simp only [List.nil_append] at this
  -- the two 'need' tell the same of what is left
  clear h
  revert this
  have mono : ∀ (f : Nat) (k' : Nat) (listed : Array Bool) (a : Act) (w : World), k ≤ k' → k' + f = ops.size → Region.seqB .any ops f k' listed = true → wpAnyN P .any ops Q S (fun j => decide (j < k) && need j) f listed a w → wpAnyN P .any ops Q S need f listed a w := by
    intro f
    induction f with
    | zero => intro _ _ _ _ _ _ _ h; exact h
    | succ f ih =>
      intro k' listed a w hkk hf hB h
      simp only [Region.seqB, Bool.and_eq_true, decide_eq_true_eq] at hB
      refine ⟨h.1, fun i hi => wpOp_mono (fun a' w' h' => ⟨fun hc => ?_, ?_⟩) (h.2 i hi)⟩
      · rw [hB.1] at hi
        have : i = k' := by simpa using hi
        subst this
        have := hn (i - k) (by omega)
        rw [show k + (i - k) = i by omega] at this
        rw [this] at hc; cases hc
      · rw [hB.1] at hi
        have : i = k' := by simpa using hi
        subst this
        exact ih (i + 1) _ a' w' (by omega) (by omega) hB.2 h'.2
  exact mono rest.length k listed a w (Nat.le_refl _) (by omega) hB

/-- The region, its heads by number. -/
theorem region_heads {P : Program} {id : Nat} {Q : Exit → Act → World → Prop} {a : Act} {w : World} {ops : Array Oper} (cells : List (Addr × Value)) (order need : List Nat) (heads : List Oper) (g : Nat) (hm : P.follows .mixedOrders = true)
    (hg : ops.size = heads.length + g) (hh : order.map (ops[·]?) = heads.map some) (hs : Region.noSelect ops = true) (hN : needB ops need order = true) (hB : headsB ops (Array.replicate ops.size false) order = true)
    (hQ : ∀ c (d : Tmp) (v : Value) a w, Q (.panic c) (a.put (some d) v) w → Q (.panic c) a w) (hS : AllCells w.drew cells)
    (h : Nonempty (HeldC cells) → (∀ u : HeldC cells, AllCells u.w cells) → wpQuiet P ops (fun w' => ∃ u : HeldC cells, w' = u.w) (fun a' => wpAnyN P .any ops Q (fun w' => AllCells w' cells) (fun j => need.contains j) g (listedAll (Array.replicate ops.size false) order) a' w.drew) heads a) : (Code.region id ops true).wp P Q a w := by
  have e : (fun w' : World => ∃ u : HeldC cells, w' = u.w) = (fun w' => AllCells w' cells) := by
    funext w'
    exact propext ⟨fun ⟨u, hu⟩ => hu ▸ u.ok, fun hw => ⟨⟨w', hw⟩, rfl⟩⟩
  have h' := h ⟨⟨w.drew, hS⟩⟩ (fun u => u.ok)
  rw [e] at h'
  refine wp_region_any hm (wpAny_of_N (S := fun w' => AllCells w' cells) (need := fun j => need.contains j) _ _ _ _ ?_)
  have key := anyN_heads' (P := P) (need := fun j => need.contains j) (g := g) (w := w.drew) hs hS hQ heads order (Array.replicate ops.size false) a hh (needB_spec hN) hB h'
  rw [hg]
  rw [hg] at key
  exact key

def pick (l : List Oper) : List Nat → List Oper
  | [] => []
  | k :: ks => (l.drop k).take 1 ++ pick l ks
theorem region_picked {P : Program} {id : Nat} {Q : Exit → Act → World → Prop} {a : Act} {w : World} {l : List Oper} (cells : List (Addr × Value)) (order need : List Nat) (g : Nat) (hm : P.follows .mixedOrders = true)
    (hg : l.toArray.size = (pick l order).length + g) (hh : order.map (l.toArray[·]?) = (pick l order).map some) (hs : Region.noSelect l.toArray = true) (hN : needB l.toArray need order = true) (hB : headsB l.toArray (Array.replicate l.toArray.size false) order = true)
    (hQ : ∀ c (d : Tmp) (v : Value) a w, Q (.panic c) (a.put (some d) v) w → Q (.panic c) a w) (hS : AllCells w.drew cells)
    (h : Nonempty (HeldC cells) → (∀ u : HeldC cells, AllCells u.w cells) → wpQuiet P l.toArray (fun w' => ∃ u : HeldC cells, w' = u.w) (fun a' => wpAnyN P .any l.toArray Q (fun w' => AllCells w' cells) (fun j => need.contains j) g (listedAll (Array.replicate l.toArray.size false) order) a' w.drew) (pick l order) a) : (Code.region id l.toArray true).wp P Q a w :=
  region_heads cells order need (pick l order) g hm hg hh hs hN hB hQ hS h

theorem drop_take_one {l : List Oper} {listed : Array Bool} {i : Nat} (hi : i ∈ Region.ready .any l.toArray listed) : ∃ o, l.toArray[i]? = some o ∧ (l.drop i).take 1 = [o] := by
  obtain ⟨_, o, ho, _⟩ := mem_ready.1 hi
  refine ⟨o, ho, ?_⟩
  have : l[i]? = some o := by simpa using ho
  obtain ⟨h1, h2⟩ := List.getElem?_eq_some_iff.1 this
  rw [List.drop_eq_getElem_cons h1, h2]; rfl
section
variable {P : Program} {l : List Oper} {Q : Exit → Act → World → Prop} {S : World → Prop} {need : Nat → Bool} {g : Nat} {listed : Array Bool} {a : Act} {w : World}
theorem anyN_oneL (i : Nat) (hr : Region.ready .any l.toArray listed = [i])
    (h : wpList P l.toArray (Exit.then (fun a' w' => (need i = true → S w') ∧ wpAnyN P .any l.toArray Q S need g (listed.setIfInBounds i true) a' w') Q) ((l.drop i).take 1) a w) : wpAnyN P .any l.toArray Q S need (g + 1) listed a w := by
  obtain ⟨o, ho, e⟩ := drop_take_one (l := l) (listed := listed) (i := i) (by rw [hr]; simp)
  rw [e] at h
  exact anyN_one i o hr ho h
theorem anyN_twoL (i j : Nat) (hr : Region.ready .any l.toArray listed = [i, j])
    (h : wpList P l.toArray (Exit.then (fun a' w' => (need i = true → S w') ∧ wpAnyN P .any l.toArray Q S need g (listed.setIfInBounds i true) a' w') Q) ((l.drop i).take 1) a w)
    (k : wpList P l.toArray (Exit.then (fun a' w' => (need j = true → S w') ∧ wpAnyN P .any l.toArray Q S need g (listed.setIfInBounds j true) a' w') Q) ((l.drop j).take 1) a w) : wpAnyN P .any l.toArray Q S need (g + 1) listed a w := by
  obtain ⟨o, ho, e⟩ := drop_take_one (l := l) (listed := listed) (i := i) (by rw [hr]; simp)
  obtain ⟨u, hu, f⟩ := drop_take_one (l := l) (listed := listed) (i := j) (by rw [hr]; simp)
  rw [e] at h
  rw [f] at k
  exact anyN_two i j o u hr ho hu h k
theorem anyN_restL (k : Nat) (hk : l.toArray.size = k + g) (hn : ∀ j, j < g → need (k + j) = false) (hB : Region.seqB .any l.toArray g k listed = true) (h : wpList P l.toArray Q (l.drop k) a w) : wpAnyN P .any l.toArray Q S need g listed a w := by
  have hk' : l.length = k + g := by simpa using hk
  exact anyN_rest k (l.drop k) (by rw [List.length_drop]; omega) (fun j hj => by simp) hk hn hB h
end

section
variable {P : Program} {ops : Array Oper} {Q : Exit → Act → World → Prop} {md : Region.Mode}
theorem wpAnyN_of_any {S : World → Prop} {need : Nat → Bool} (hS : ∀ w, S w) : ∀ (fuel : Nat) (listed : Array Bool) (a : Act) (w : World), wpAny P md ops Q fuel listed a w → wpAnyN P md ops Q S need fuel listed a w
  | 0, _, _, _, h => h
  | fuel + 1, _, _, _, h => ⟨h.1, fun i hi => wpOp_mono (fun a' w' h' => ⟨fun _ => hS w', wpAnyN_of_any hS fuel _ a' w' h'⟩) (h.2 i hi)⟩
end
theorem anyN_again {P : Program} {Q : Exit → Act → World → Prop} {a : Act} {w : World} {l : List Oper} {need0 : Nat → Bool} {listed : Array Bool} {f : Nat} (cells : List (Addr × Value)) (order need : List Nat) (g : Nat)
    (hg : f = (pick l order).length + g) (hh : order.map (l.toArray[·]?) = (pick l order).map some) (hs : Region.noSelect l.toArray = true) (hN : needB l.toArray need order = true) (hB : headsB l.toArray listed order = true)
    (hQ : ∀ c (d : Tmp) (v : Value) a w, Q (.panic c) (a.put (some d) v) w → Q (.panic c) a w) (hS : AllCells w cells)
    (h : Nonempty (HeldC cells) → (∀ u : HeldC cells, AllCells u.w cells) → wpQuiet P l.toArray (fun w' => ∃ u : HeldC cells, w' = u.w) (fun a' => wpAnyN P .any l.toArray Q (fun w' => AllCells w' cells) (fun j => need.contains j) g (listedAll listed order) a' w) (pick l order) a) :
    wpAnyN P .any l.toArray Q (fun w' => AllCells w' []) need0 f listed a w := by
  have e : (fun w' : World => ∃ u : HeldC cells, w' = u.w) = (fun w' => AllCells w' cells) := by
    funext w'
    exact propext ⟨fun ⟨u, hu⟩ => hu ▸ u.ok, fun hw => ⟨⟨w', hw⟩, rfl⟩⟩
  have h' := h ⟨⟨w, hS⟩⟩ (fun u => u.ok)
  rw [e] at h'
  refine wpAnyN_of_any (fun _ => trivial) _ _ _ _ (wpAny_of_N (S := fun w' => AllCells w' cells) (need := fun j => need.contains j) _ _ _ _ ?_)
  rw [hg]
  exact anyN_heads' (P := P) (need := fun j => need.contains j) (g := g) (w := w) hs hS hQ (pick l order) order listed a hh (needB_spec hN) hB h'

theorem wpAnyN_need {P : Program} {md : Region.Mode} {ops : Array Oper} {Q : Exit → Act → World → Prop} {S : World → Prop} {need : Nat → Bool} : ∀ (fuel : Nat) (listed : Array Bool) (a : Act) (w : World), wpAnyN P md ops Q S (fun _ => true) fuel listed a w → wpAnyN P md ops Q S need fuel listed a w
  | 0, _, _, _, h => h
  | fuel + 1, _, _, _, h => ⟨h.1, fun i hi => wpOp_mono (fun a' w' h' => ⟨fun _ => h'.1 rfl, wpAnyN_need fuel _ a' w' h'.2⟩) (h.2 i hi)⟩
theorem anyN_more {P : Program} {Q : Exit → Act → World → Prop} {a : Act} {w : World} {l : List Oper} {cells : List (Addr × Value)} {need : Nat → Bool} {listed : Array Bool} {f : Nat} (order : List Nat) (g : Nat)
    (hg : f = (pick l order).length + g) (hh : order.map (l.toArray[·]?) = (pick l order).map some) (hs : Region.noSelect l.toArray = true) (hB : headsB l.toArray listed order = true)
    (hQ : ∀ c (d : Tmp) (v : Value) a w, Q (.panic c) (a.put (some d) v) w → Q (.panic c) a w) (hS : AllCells w cells)
    (h : Nonempty (HeldC cells) → (∀ u : HeldC cells, AllCells u.w cells) → wpQuiet P l.toArray (fun w' => ∃ u : HeldC cells, w' = u.w) (fun a' => wpAnyN P .any l.toArray Q (fun w' => AllCells w' cells) (fun _ => true) g (listedAll listed order) a' w) (pick l order) a) :
    wpAnyN P .any l.toArray Q (fun w' => AllCells w' cells) need f listed a w := by
  have e : (fun w' : World => ∃ u : HeldC cells, w' = u.w) = (fun w' => AllCells w' cells) := by
    funext w'
    exact propext ⟨fun ⟨u, hu⟩ => hu ▸ u.ok, fun hw => ⟨⟨w', hw⟩, rfl⟩⟩
  have h' := h ⟨⟨w, hS⟩⟩ (fun u => u.ok)
  rw [e] at h'
  rw [hg]
  exact wpAnyN_need _ _ _ _ (anyN_heads' (P := P) (need := fun _ => true) (g := g) (w := w) hs hS hQ (pick l order) order listed a hh (fun _ _ _ _ _ h => by cases h) hB h')

/-- A region that draws its order: these reads first; S holds behind each operation. -/
theorem region_free {P : Program} {id : Nat} {Q : Exit → Act → World → Prop} {a : Act} {w : World} {l : List Oper} (cells : List (Addr × Value)) (order : List Nat) (g : Nat) (hm : P.follows .mixedOrders = true)
    (hg : l.toArray.size = (pick l order).length + g) (hh : order.map (l.toArray[·]?) = (pick l order).map some) (hs : Region.noSelect l.toArray = true) (hB : headsB l.toArray (Array.replicate l.toArray.size false) order = true)
    (hQ : ∀ c (d : Tmp) (v : Value) a w, Q (.panic c) (a.put (some d) v) w → Q (.panic c) a w) (hS : AllCells w.drew cells)
    (h : Nonempty (HeldC cells) → (∀ u : HeldC cells, AllCells u.w cells) → wpQuiet P l.toArray (fun w' => ∃ u : HeldC cells, w' = u.w) (fun a' => wpAnyN P .any l.toArray Q (fun w' => AllCells w' cells) (fun _ => true) g (listedAll (Array.replicate l.toArray.size false) order) a' w.drew) (pick l order) a) : (Code.region id l.toArray true).wp P Q a w :=
  wp_region_any hm (wpAny_of_N (S := fun w' => AllCells w' cells) (need := fun _ => true) _ _ _ _ (anyN_more order g hg hh hs hB hQ hS h))

/-- These cells hold these values, and lie in blocks whose tags are among T. -/
def Kept (own : Tags) (w : World) (T : List Nat) (cells : List (Addr × Value)) : Prop := AllCells w cells ∧ ∀ p ∈ cells, p.1.block < w.heap.size ∧ own p.1.block ∈ T
theorem AllCells.move {w w' : World} : ∀ {cells : List (Addr × Value)}, AllCells w cells → (∀ p ∈ cells, w'.heap[p.1.block]? = w.heap[p.1.block]?) → AllCells w' cells
  | [], _, _ => trivial
  | (a, v) :: l, h, k => ⟨(World.cell?_of_block (k (a, v) (by simp))).trans h.1, AllCells.move h.2 (fun p hp => k p (by simp [hp]))⟩
section
variable {own own' : Tags} {w w' : World} {T : List Nat} {t : Nat} {cells : List (Addr × Value)}
theorem Kept.tr (h : Kept own w T cells) (k : Tr own t w own' w') (ht : t ∉ T) : Kept own' w' T cells :=
  ⟨h.1.move (fun p hp => k.block _ (h.2 p hp).1 (fun e => ht (e ▸ (h.2 p hp).2))), fun p hp => ⟨Nat.lt_of_lt_of_le (h.2 p hp).1 k.size, by rw [k.same _ (h.2 p hp).1]; exact (h.2 p hp).2⟩⟩
theorem Kept.next (h : Kept own w T cells) (k : Below w.heap.size w w') : Kept own w' T cells :=
  ⟨h.1.move (fun p hp => k.block _ (h.2 p hp).1), fun p hp => ⟨Nat.lt_of_lt_of_le (h.2 p hp).1 k.size, (h.2 p hp).2⟩⟩
theorem Kept.drew (h : Kept own w T cells) : Kept own w.drew T cells := h.next ((Below.refl _ _).drew)
theorem Kept.nil : Kept own w T [] := ⟨trivial, fun _ h => by cases h⟩
theorem Kept.cons {a : Addr} {v : Value} (h : w.cell? a = some v) (ha : own a.block ∈ T) (k : Kept own w T cells) : Kept own w T ((a, v) :: cells) :=
  ⟨⟨h, k.1⟩, fun p hp => by
    rcases List.mem_cons.1 hp with rfl | hp
    · exact ⟨World.block_lt_of_cell? w _ h, ha⟩
    · exact k.2 p hp⟩
end

def Blk (w : World) (g : Nat) (e : TypeId) (cs : Array Value) : Prop := w.heap[g]? = some (.cells cs e (0, 0))
section
variable {w w' : World} {g : Nat} {e : TypeId} {cs : Array Value}
theorem Blk.lt (h : Blk w g e cs) : g < w.heap.size := (Array.getElem?_eq_some_iff.1 h).1
theorem Blk.cell (h : Blk w g e cs) (i : Nat) : w.cell? ⟨g, i, none⟩ = cs[i]? := cell_of_row w g i cs e (0, 0) h
theorem Blk.frozen (h : Blk w g e cs) (i : Nat) : w.frozen? ⟨g, i, none⟩ = false := by
  unfold Blk at h
  simp [World.frozen?, h]
theorem Blk.kept (h : Blk w g e cs) (k : w'.heap[g]? = w.heap[g]?) : Blk w' g e cs := k.trans h
theorem Blk.new (w : World) (e : TypeId) (cs : Array Value) : Blk (w.alloc (.cells cs e)) w.heap.size e cs := heap_alloc_new w _
theorem Blk.alloc (h : Blk w g e cs) (o : Obj) : Blk (w.alloc o) g e cs := (Below.heap_alloc w o g h.lt).trans h
theorem Blk.store (h : Blk w g e cs) (i : Nat) (u : Value) : Blk (w.setCell ⟨g, i, none⟩ u) g e (cs.setIfInBounds i u) := by
  unfold Blk at h ⊢
  simp [World.setCell, Array.getElem?_modify, h]
theorem Blk.far (h : Blk w g e cs) {p : Addr} (hp : g ≠ p.block) (u : Value) : Blk (w.setCell p u) g e cs := (Below.heap_setCell w p u g hp).trans h
end
theorem Blk.two {w : World} {X : Nat} {ty : TypeId} {a b : Value} (h : Blk w X ty #[a, b]) : w.cell? ⟨X, 0, none⟩ = some a ∧ w.cell? ⟨X, 1, none⟩ = some b ∧ w.frozen? ⟨X, 0, none⟩ = false ∧ w.frozen? ⟨X, 1, none⟩ = false ∧ X < w.heap.size :=
  ⟨h.cell 0, h.cell 1, h.frozen 0, h.frozen 1, h.lt⟩
theorem Blk.four {w : World} {X : Nat} {ty : TypeId} {a b c d : Value} (h : Blk w X ty #[a, b, c, d]) : (w.cell? ⟨X, 0, none⟩ = some a ∧ w.cell? ⟨X, 1, none⟩ = some b ∧ w.cell? ⟨X, 2, none⟩ = some c ∧ w.cell? ⟨X, 3, none⟩ = some d) ∧
    (w.frozen? ⟨X, 0, none⟩ = false ∧ w.frozen? ⟨X, 1, none⟩ = false ∧ w.frozen? ⟨X, 2, none⟩ = false ∧ w.frozen? ⟨X, 3, none⟩ = false) ∧ X < w.heap.size :=
  ⟨⟨h.cell 0, h.cell 1, h.cell 2, h.cell 3⟩, ⟨h.frozen 0, h.frozen 1, h.frozen 2, h.frozen 3⟩, h.lt⟩

theorem ownsRow_kept {w w' : World} {base : Nat} {e : TypeId} {size : Nat} {v : Value} {n : Nat} {xs : List Value} (h : w.ownsRow base e size v n xs) (hk : ∀ g, v.ownBlock = some g → g < w.heap.size → w'.heap[g]? = w.heap[g]?) : w'.ownsRow base e size v n xs := by
  refine ⟨h.1, ?_⟩
  rcases h.2 with h2 | ⟨g, cap, cur, hv, hb, hg, h3⟩
  · exact .inl h2
  · exact .inr ⟨g, cap, cur, hv, hb, (hk g (by rw [hv]; rfl) (Array.getElem?_eq_some_iff.1 hg).1).trans hg, h3⟩
theorem ownsRow_base {w : World} {base : Nat} {e : TypeId} {size : Nat} {v : Value} {n : Nat} {xs : List Value} (h : w.ownsRow base e size v n xs) : ∀ k, v.ownBlock = some k → base ≤ k := by
  intro k hk
  rcases h.2 with ⟨hv, _⟩ | ⟨g, cap, cur, hv, hb, _⟩
  · rw [hv] at hk; cases hk
  · rw [hv] at hk; simp [Value.ownBlock] at hk; omega
theorem AllCells.below {w w' : World} : ∀ {cells : List (Addr × Value)}, AllCells w cells → Below w.heap.size w w' → AllCells w' cells
  | [], _, _ => trivial
  | c :: _, h, hb => ⟨(hb.cell (p := c.1) (World.block_lt_of_cell? w c.1 h.1)).trans h.1, AllCells.below h.2 hb⟩

section
variable {w0 w w' : World} {own own' : Tags} {t : Nat}
end
section
variable {w w' : World} {own own' : Tags} {t X : Nat} {e : TypeId} {cs : Array Value}
end
/-! ### regions that draw their order, in fewer words -/
theorem pk {α : Type} : (∀ (n : Nat) (a : α) (l : List α), (a :: l).take (n + 1) = a :: l.take n) ∧ (∀ l : List α, l.take 0 = []) ∧ (∀ (n : Nat) (a : α) (l : List α), (a :: l).drop (n + 1) = l.drop n) ∧ (∀ l : List α, l.drop 0 = l) ∧
    (∀ (a : α) (l m : List α), a :: l ++ m = a :: (l ++ m)) ∧ (∀ l : List α, [] ++ l = l) := ⟨fun _ _ _ => rfl, fun _ => rfl, fun _ _ _ => rfl, fun _ => rfl, fun _ _ _ => rfl, fun _ => rfl⟩
theorem pick_spec {l : List Oper} : ∀ {order : List Nat}, order.all (fun i => decide (i < l.length)) = true → (pick l order).length = order.length ∧ order.map (l.toArray[·]?) = (pick l order).map some
  | [], _ => ⟨rfl, rfl⟩
  | k :: ks, h => by
    simp only [List.all_cons, Bool.and_eq_true, decide_eq_true_eq] at h
    obtain ⟨h1, h2⟩ := pick_spec (order := ks) h.2
    have e : (l.drop k).take 1 = [l[k]] := by rw [List.drop_eq_getElem_cons h.1]; rfl
    refine ⟨by simp only [pick, e, List.length_append, List.length_cons, List.length_nil, h1]; omega, ?_⟩
    simp only [pick, e, List.map_cons, List.map_append, h2, List.map_nil, List.cons_append, List.nil_append]
    congr 1
    simp [h.1]
theorem rmore {P : Program} {Q : Exit → Act → World → Prop} {a : Act} {w : World} {l : List Oper} {cells : List (Addr × Value)} {need : Nat → Bool} {listed : Array Bool} {f : Nat} (order : List Nat) (g : Nat)
    (hB : (f == order.length + g && order.all (fun i => decide (i < l.length)) && Region.noSelect l.toArray && headsB l.toArray listed order) = true)
    (hQ : ∀ c (d : Tmp) (v : Value) a w, Q (.panic c) (a.put (some d) v) w → Q (.panic c) a w) (hS : AllCells w cells)
    (h : Nonempty (HeldC cells) → (∀ u : HeldC cells, AllCells u.w cells) → wpQuiet P l.toArray (fun w' => ∃ u : HeldC cells, w' = u.w) (fun a' => wpAnyN P .any l.toArray Q (fun w' => AllCells w' cells) (fun _ => true) g (listedAll listed order) a' w) (pick l order) a) :
    wpAnyN P .any l.toArray Q (fun w' => AllCells w' cells) need f listed a w := by
  simp only [Bool.and_eq_true, beq_iff_eq] at hB
  obtain ⟨⟨⟨h1, h2⟩, h3⟩, h4⟩ := hB
  obtain ⟨h5, h6⟩ := pick_spec h2
  exact anyN_more order g (by rw [h5]; exact h1) h6 h3 h4 hQ hS h
theorem rfree {P : Program} {id : Nat} {Q : Exit → Act → World → Prop} {a : Act} {w : World} {l : List Oper} {cells : List (Addr × Value)} (order : List Nat) (g : Nat)
    (hB : (P.follows .mixedOrders && l.length == order.length + g && order.all (fun i => decide (i < l.length)) && Region.noSelect l.toArray && headsB l.toArray (Array.replicate l.toArray.size false) order) = true)
    (hQ : ∀ c (d : Tmp) (v : Value) a w, Q (.panic c) (a.put (some d) v) w → Q (.panic c) a w) (hS : AllCells w.drew cells)
    (h : Nonempty (HeldC cells) → (∀ u : HeldC cells, AllCells u.w cells) → wpQuiet P l.toArray (fun w' => ∃ u : HeldC cells, w' = u.w) (fun a' => wpAnyN P .any l.toArray Q (fun w' => AllCells w' cells) (fun _ => true) g (listedAll (Array.replicate l.toArray.size false) order) a' w.drew) (pick l order) a) : (Code.region id l.toArray true).wp P Q a w := by
  simp only [Bool.and_eq_true, beq_iff_eq] at hB
  obtain ⟨⟨⟨⟨h0, h1⟩, h2⟩, h3⟩, h4⟩ := hB
  obtain ⟨h5, h6⟩ := pick_spec h2
  exact region_free cells order g h0 (by rw [h5, ← h1, List.size_toArray]) h6 h3 h4 hQ hS h
theorem rpick {P : Program} {id : Nat} {Q : Exit → Act → World → Prop} {a : Act} {w : World} {l : List Oper} {cells : List (Addr × Value)} (order need : List Nat) (g : Nat)
    (hB : (P.follows .mixedOrders && l.length == order.length + g && order.all (fun i => decide (i < l.length)) && Region.noSelect l.toArray && needB l.toArray need order && headsB l.toArray (Array.replicate l.toArray.size false) order) = true)
    (hQ : ∀ c (d : Tmp) (v : Value) a w, Q (.panic c) (a.put (some d) v) w → Q (.panic c) a w) (hS : AllCells w.drew cells)
    (h : Nonempty (HeldC cells) → (∀ u : HeldC cells, AllCells u.w cells) → wpQuiet P l.toArray (fun w' => ∃ u : HeldC cells, w' = u.w) (fun a' => wpAnyN P .any l.toArray Q (fun w' => AllCells w' cells) (fun j => need.contains j) g (listedAll (Array.replicate l.toArray.size false) order) a' w.drew) (pick l order) a) : (Code.region id l.toArray true).wp P Q a w := by
  simp only [Bool.and_eq_true, beq_iff_eq] at hB
  obtain ⟨⟨⟨⟨⟨h0, h1⟩, h2⟩, h3⟩, hN⟩, h4⟩ := hB
  obtain ⟨h5, h6⟩ := pick_spec h2
  exact region_picked cells order need g h0 (by rw [h5, ← h1, List.size_toArray]) h6 h3 hN h4 hQ hS h
end Go.Proofs.YtoicnghjjgkebaaGreatDoor
