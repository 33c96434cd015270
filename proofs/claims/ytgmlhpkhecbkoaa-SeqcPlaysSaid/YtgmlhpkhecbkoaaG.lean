/-
  General words on memory for this claim: which blocks an object has (a tag for each block), what a call keeps, rows, maps keyed by ids. No condition.
-/
import Derived.WalkKit
import Derived.WalkSpells
import Derived.Maps.AppendAt
import Derived.Deep.AppendLies
import Derived.Deep.Draws
import Derived.Deep.QuietTactic
import Derived.BigQuiet
import Derived.StillTailTactics
namespace Go.Proofs.Ytgmlhpkhecbkoaa
open Go.RowKit

abbrev Id := Int × Int
def idv (x : Id) : Value := .agg #[.int .i64 x.1, .int .i64 x.2]
def idCells : List Id → List Value
  | [] => []
  | x :: l => .int .i64 x.1 :: .int .i64 x.2 :: idCells l
def ideq (a b c d : Int) : Bool := a == c && b == d
theorem ideq_true {a b c d : Int} : ideq a b c d = true ↔ a = c ∧ b = d := by simp [ideq]
theorem ideq_false {a b c d : Int} : ideq a b c d = false ↔ ¬ (a = c ∧ b = d) := by
  rw [← ideq_true]; simp
theorem length_idCells (l : List Id) : (idCells l).length = l.length * 2 := by
  induction l with
  | nil => rfl
  | cons x l ih => simp [idCells, ih]; omega
theorem idCells_append (l m : List Id) : idCells (l ++ m) = idCells l ++ idCells m := by
  induction l with
  | nil => rfl
  | cons x l ih => simp [idCells, ih]
theorem idCells_get (l : List Id) (i : Nat) (h : i < l.length) : (idCells l)[i * 2]? = some (.int .i64 l[i].1) ∧ (idCells l)[i * 2 + 1]? = some (.int .i64 l[i].2) := by
  induction l generalizing i with
  | nil => simp at h
  | cons x l ih =>
    cases i with
    | zero => simp [idCells]
    | succ i =>
      have := ih i (by simpa using h)
      have e1 : (i + 1) * 2 = i * 2 + 1 + 1 := by omega
      have e2 : (i + 1) * 2 + 1 = (i * 2 + 1) + 1 + 1 := by omega
      rw [e2, e1]
      simpa [idCells] using this

/-- A tag for each block: 0: nobody's. -/
abbrev Tags := Nat → Nat
def tagAt (own : Tags) (k t : Nat) : Tags := fun j => if j = k then t else own j

structure Tr (own : Tags) (t : Nat) (w : World) (own' : Tags) (w' : World) : Prop where
  os : w'.os = w.os
  tape : w'.tape = w.tape
  output : w'.output = w.output
  size : w.heap.size ≤ w'.heap.size
  block : ∀ k, k < w.heap.size → own k ≠ t → w'.heap[k]? = w.heap[k]?
  same : ∀ k, k < w.heap.size → own' k = own k
  fresh : (∀ k, own k ≠ 0 → k < w.heap.size) → ∀ k, own' k ≠ 0 → k < w'.heap.size

section
variable {own own1 own2 : Tags} {t : Nat} {w w1 w2 : World}
theorem Tr.refl (own : Tags) (t : Nat) (w : World) : Tr own t w own w := ⟨rfl, rfl, rfl, Nat.le_refl _, fun _ _ _ => rfl, fun _ _ => rfl, fun h => h⟩
theorem Tr.trans (h : Tr own t w own1 w1) (k : Tr own1 t w1 own2 w2) : Tr own t w own2 w2 :=
  ⟨k.os.trans h.os, k.tape.trans h.tape, k.output.trans h.output, Nat.le_trans h.size k.size,
   fun j hj hne => (k.block j (Nat.lt_of_lt_of_le hj h.size) (by rw [h.same j hj]; exact hne)).trans (h.block j hj hne),
   fun j hj => (k.same j (Nat.lt_of_lt_of_le hj h.size)).trans (h.same j hj), fun hf => k.fresh (h.fresh hf)⟩
theorem Tr.below (h : Tr own t w own1 w1) (k : Below w1.heap.size w1 w2) : Tr own t w own1 w2 :=
  h.trans ⟨k.os, k.tape, k.output, k.size, fun j hj _ => k.block j hj, fun _ _ => rfl, fun hf j hj => Nat.lt_of_lt_of_le (hf j hj) k.size⟩
theorem Tr.alloc (h : Tr own t w own1 w1) (o : Obj) : Tr own t w own1 (w1.alloc o) := h.below ((Below.refl _ _).alloc (Nat.le_refl _) o)
theorem Tr.drew (h : Tr own t w own1 w1) : Tr own t w own1 w1.drew := h.below ((Below.refl _ _).drew)
theorem Tr.drewN (h : Tr own t w own1 w1) (n : Nat) : Tr own t w own1 (w1.drewN n) := h.below ⟨rfl, rfl, rfl, Nat.le_refl _, fun _ _ => rfl⟩
theorem Tr.setCell (h : Tr own t w own1 w1) {p : Addr} (hp : own1 p.block = t ∨ w.heap.size ≤ p.block) (u : Value) : Tr own t w own1 (w1.setCell p u) :=
  ⟨h.os, h.tape, h.output, by simpa [World.setCell] using h.size,
   fun j hj hne => (Below.heap_setCell w1 p u j (by
     rintro rfl
     rcases hp with hp | hp
     · rw [h.same _ hj] at hp; exact hne hp
     · omega)).trans (h.block j hj hne), h.same, fun hf j hj => by have := h.fresh hf j hj; simpa [World.setCell] using this⟩
theorem Tr.grown (h : Tr own t w own1 w1) {row : Option Nat} (hg : w1.grownBy w2 row) (hr : ∀ k, row = some k → own1 k = t ∨ w.heap.size ≤ k) : Tr own t w own1 w2 :=
  ⟨hg.os.trans h.os, hg.tape.trans h.tape, hg.output.trans h.output, Nat.le_trans h.size hg.size,
   fun j hj hne => (hg.block j (Nat.lt_of_lt_of_le hj h.size) (by
     intro e
     rcases hr j e.symm with hp | hp
     · rw [h.same _ hj] at hp; exact hne hp
     · omega)).trans (h.block j hj hne), h.same, fun hf j hj => Nat.lt_of_lt_of_le (h.fresh hf j hj) hg.size⟩
/-- A new block gets a tag. -/
theorem Tr.tag (h : Tr own t w own1 w1) {k : Nat} (hk : w.heap.size ≤ k) (hk1 : k < w1.heap.size) (s : Nat) : Tr own t w (tagAt own1 k s) w1 :=
  ⟨h.os, h.tape, h.output, h.size, h.block, fun j hj => by unfold tagAt; rw [if_neg (by omega)]; exact h.same j hj,
   fun hf j hj => by
    unfold tagAt at hj
    split at hj
    · rename_i e; rw [e]; exact hk1
    · exact h.fresh hf j hj⟩
theorem Tr.heap (h : Tr own t w own1 w1) {k : Nat} (hk : k < w.heap.size) (hne : own k ≠ t) : w1.heap[k]? = w.heap[k]? := h.block k hk hne
theorem Tr.cell (h : Tr own t w own1 w1) {p : Addr} (hp : p.block < w.heap.size) (hne : own p.block ≠ t) : w1.cell? p = w.cell? p := World.cell?_of_block (h.block _ hp hne)
theorem Tr.frozen (h : Tr own t w own1 w1) {p : Addr} (hp : p.block < w.heap.size) (hne : own p.block ≠ t) : w1.frozen? p = w.frozen? p := World.frozen?_of_block (h.block _ hp hne)
theorem Tr.toBelow (h : Tr own t w own1 w1) (hne : ∀ k, k < w.heap.size → own k ≠ t) : Below w.heap.size w w1 :=
  ⟨h.os, h.tape, h.output, h.size, fun k hk => h.block k hk (hne k hk)⟩
end

/-- Whatever bears a tag is there. -/
def Fresh (own : Tags) (w : World) : Prop := ∀ k, own k ≠ 0 → k < w.heap.size
theorem Fresh.new {own : Tags} {w : World} (h : Fresh own w) {k : Nat} (hk : w.heap.size ≤ k) : own k = 0 := by
  by_cases e : own k = 0
  · exact e
  · have := h k e; omega
theorem Fresh.mono {own : Tags} {w w' : World} (h : Fresh own w) (hs : w.heap.size ≤ w'.heap.size) : Fresh own w' := fun k hk => Nat.lt_of_lt_of_le (h k hk) hs
theorem Fresh.alloc {own : Tags} {w : World} (h : Fresh own w) (o : Obj) : Fresh own (w.alloc o) := h.mono (by simp)
theorem Fresh.tr {own own' : Tags} {t : Nat} {w w' : World} (h : Fresh own w) (k : Tr own t w own' w') : Fresh own' w' := k.fresh h

/-- What is tagged s lies as it lay. -/
def Same (s : Nat) (own : Tags) (w : World) (own' : Tags) (w' : World) : Prop := ∀ k, k < w.heap.size → own k = s → w'.heap[k]? = w.heap[k]? ∧ own' k = s
section
variable {own own1 own2 : Tags} {s t : Nat} {w w1 w2 : World}
theorem Tr.toSame (h : Tr own t w own1 w1) (hst : s ≠ t) : Same s own w own1 w1 := fun k hk ho => ⟨h.block k hk (by rw [ho]; exact hst), by rw [h.same k hk, ho]⟩
theorem Same.refl (s : Nat) (own : Tags) (w : World) : Same s own w own w := fun _ _ ho => ⟨rfl, ho⟩
theorem Same.trans (h : Same s own w own1 w1) (hs : w.heap.size ≤ w1.heap.size) (k : Same s own1 w1 own2 w2) : Same s own w own2 w2 := fun j hj ho => by
  obtain ⟨a, b⟩ := h j hj ho
  obtain ⟨c, d⟩ := k j (Nat.lt_of_lt_of_le hj hs) b
  exact ⟨c.trans a, d⟩
theorem Same.below (k : Below w.heap.size w w1) : Same s own w own w1 := fun j hj ho => ⟨k.block j hj, ho⟩
theorem Same.alloc (o : Obj) : Same s own w own (w.alloc o) := Same.below ((Below.refl _ _).alloc (Nat.le_refl _) o)
theorem Same.drew : Same s own w own w.drew := Same.below ((Below.refl _ _).drew)
theorem Same.drewN (n : Nat) : Same s own w own (w.drewN n) := Same.below ⟨rfl, rfl, rfl, Nat.le_refl _, fun _ _ => rfl⟩
theorem Same.setCell {p : Addr} (hp : own p.block ≠ s) (u : Value) : Same s own w own (w.setCell p u) := fun j _ ho => ⟨Below.heap_setCell w p u j (fun e => hp (by rw [← e]; exact ho)), ho⟩
theorem Same.tag {k : Nat} (hk : w.heap.size ≤ k) (u : Nat) : Same s own w (tagAt own k u) w := fun j hj ho => ⟨rfl, by unfold tagAt; rw [if_neg (by omega)]; exact ho⟩
end

/-- A row of the object t's own. -/
def Row (w : World) (own : Tags) (t : Nat) (e : TypeId) (size : Nat) (v : Value) (n : Nat) (xs : List Value) : Prop :=
  w.ownsRow 0 e size v n xs ∧ ∀ g, v.ownBlock = some g → own g = t
theorem Row.keep {w w' : World} {own own' : Tags} {t : Nat} {e : TypeId} {size : Nat} {v : Value} {n : Nat} {xs : List Value} (h : Row w own t e size v n xs) (k : Same t own w own' w') : Row w' own' t e size v n xs := by
  refine ⟨⟨h.1.1, ?_⟩, fun g hg => (k g (h.1.lt g hg).2 (h.2 g hg)).2⟩
  rcases h.1.2 with hn | ⟨g, cap, cur, hv, hb, hgg, rest⟩
  · exact .inl hn
  · have hg : v.ownBlock = some g := by rw [hv]; rfl
    exact .inr ⟨g, cap, cur, hv, hb, ((k g (h.1.lt g hg).2 (h.2 g hg)).1).trans hgg, rest⟩
theorem Row.kept {w w' : World} {own own' : Tags} {t : Nat} {e : TypeId} {size : Nat} {v : Value} {n : Nat} {xs : List Value} (h : Row w own t e size v n xs)
    (k : ∀ g, g < w.heap.size → v.ownBlock = some g → own g = t → w'.heap[g]? = w.heap[g]? ∧ own' g = t) : Row w' own' t e size v n xs := by
  refine ⟨⟨h.1.1, ?_⟩, fun g hg => (k g (h.1.lt g hg).2 hg (h.2 g hg)).2⟩
  rcases h.1.2 with hn | ⟨g, cap, cur, hv, hb, hgg, rest⟩
  · exact .inl hn
  · have hg : v.ownBlock = some g := by rw [hv]; rfl
    exact .inr ⟨g, cap, cur, hv, hb, ((k g (h.1.lt g hg).2 hg (h.2 g hg)).1).trans hgg, rest⟩
theorem Row.nil (w : World) (own : Tags) (t : Nat) (e : TypeId) (size : Nat) : Row w own t e size (.slice none 0 0) 0 [] :=
  ⟨World.ownsRow_nil w 0 e size, fun g hg => by simp [Value.ownBlock] at hg⟩
theorem Row.form {w : World} {own : Tags} {t : Nat} {e : TypeId} {size : Nat} {v : Value} {n : Nat} {xs : List Value} (h : Row w own t e size v n xs) :
    ∃ A c, v = .slice A n c ∧ n ≤ maxLen := by
  rcases h.1.2 with ⟨hv, h0⟩ | ⟨g, cap, cur, hv, _, _, h1, h2, _⟩
  · subst h0; exact ⟨none, 0, hv, Nat.zero_le _⟩
  · exact ⟨_, _, hv, Nat.le_trans h1 h2⟩

/-- A slice of ids that can be read; its block is tagged t. -/
def IdsR (w : World) (own : Tags) (t : Nat) (A : Option Addr) (l : List Id) : Prop :=
  l ≠ [] → ∃ b off, A = some ⟨b, off, none⟩ ∧ own b = t ∧ b < w.heap.size ∧ ∀ i (h : i < l.length), w.cell? ⟨b, off + i * 2, none⟩ = some (.int .i64 l[i].1) ∧ w.cell? ⟨b, off + i * 2 + 1, none⟩ = some (.int .i64 l[i].2)
theorem IdsR.keep {w w' : World} {own own' : Tags} {t : Nat} {A : Option Addr} {l : List Id} (h : IdsR w own t A l) (hs : w.heap.size ≤ w'.heap.size) (k : Same t own w own' w') : IdsR w' own' t A l := fun hl => by
  obtain ⟨b, off, hA, ho, hb, hc⟩ := h hl
  obtain ⟨k1, k2⟩ := k b hb ho
  refine ⟨b, off, hA, k2, Nat.lt_of_lt_of_le hb hs, fun i hi => ?_⟩
  rw [World.cell?_of_block (w := w) (a := ⟨b, off + i * 2, none⟩) k1, World.cell?_of_block (w := w) (a := ⟨b, off + i * 2 + 1, none⟩) k1]
  exact hc i hi
theorem Row.toIdsR {w : World} {own : Tags} {t : Nat} {e : TypeId} {A : Option Addr} {n c : Nat} {l : List Id} (h : Row w own t e 2 (.slice A n c) n (idCells l)) : n = l.length ∧ IdsR w own t A l := by
  have hn : n = l.length := by have := h.1.1; rw [length_idCells] at this; omega
  refine ⟨hn, fun hl => ?_⟩
  rcases h.1.2 with ⟨hv, h0⟩ | ⟨g, cap, cur, hv, _, hg, h1, _, hsz, htake⟩
  · exact absurd (List.length_eq_zero_iff.1 (by omega)) hl
  · have hA : A = some ⟨g, 0, none⟩ := by injection hv
    subst hA
    have ho : own g = t := h.2 g rfl
    refine ⟨g, 0, rfl, ho, (Array.getElem?_eq_some_iff.1 hg).1, fun i hi => ?_⟩
    obtain ⟨e1, e2⟩ := idCells_get l i hi
    have hcell := h.1.cells (g := g) rfl
    have add : ∀ j, (⟨g, 0, none⟩ : Addr).add j = ⟨g, 0 + j, none⟩ := fun j => by unfold Addr.add; split <;> simp_all
    have c1 := hcell _ _ e1
    have c2 := hcell _ _ e2
    rw [add] at c1 c2
    exact ⟨c1, by rw [← Nat.add_assoc] at c2; exact c2⟩
/-- A slice of one-cell values that can be read; its block is tagged t. -/
def OnesR (w : World) (own : Tags) (t : Nat) (A : Option Addr) (l : List Value) : Prop :=
  l ≠ [] → ∃ b off, A = some ⟨b, off, none⟩ ∧ own b = t ∧ b < w.heap.size ∧ ∀ i (h : i < l.length), w.cell? ⟨b, off + i, none⟩ = some l[i]
theorem Row.toOnesR {w : World} {own : Tags} {t : Nat} {e : TypeId} {A : Option Addr} {n c : Nat} {l : List Value} (h : Row w own t e 1 (.slice A n c) n l) : n = l.length ∧ OnesR w own t A l := by
  have hn : n = l.length := by have := h.1.1; omega
  refine ⟨hn, fun hl => ?_⟩
  rcases h.1.2 with ⟨hv, h0⟩ | ⟨g, cap, cur, hv, _, hg, h1, _, hsz, htake⟩
  · exact absurd (List.length_eq_zero_iff.1 (by omega)) hl
  · have hA : A = some ⟨g, 0, none⟩ := by injection hv
    subst hA
    refine ⟨g, 0, rfl, h.2 g rfl, (Array.getElem?_eq_some_iff.1 hg).1, fun i hi => ?_⟩
    have c1 := h.1.cells (g := g) rfl i _ (List.getElem?_eq_getElem hi)
    have add : (⟨g, 0, none⟩ : Addr).add i = ⟨g, 0 + i, none⟩ := by unfold Addr.add; split <;> simp_all
    rw [add] at c1
    exact c1
theorem bodyPost_none {P : Program} {fn : Func} {R : Ending → World → Prop} {a : Act} {w : World} (h : fn.results = #[]) (hd : a.defers = []) (hR : R (.returned (.tuple #[])) w) : bodyPost P fn R .ret a w :=
  bodyPost_ret (results_none h _ _ _) hd hR

/-! ### a region that draws its order: reads first, then a tail in one order -/
theorem still_of_quiet {P : Program} {ops : Array Oper} {W : World} {Q : Act → Prop} : ∀ (l : List Oper) (a : Act), wpQuiet P ops (fun w' => w' = W) Q l a → wpStill P ops W Q l a
  | [], _, h => h
  | o :: rest, a, h => by
    unfold wpQuiet at h
    unfold wpStill
    split
    · rename_i hw
      rw [if_pos hw] at h
      obtain ⟨v, h1, h2⟩ := h
      have h3 := h1 W rfl
      have h4 := still_of_quiet rest _ h2
      unfold Oper.quietAt at h3
      unfold Oper.still
      generalize (execOp a.eval o).run P W = r at *
      cases r with
      | ok n w' =>
        cases n <;> simp only [Oper.quietUpon] at h3 <;> simp only [Oper.stillUpon]
        case enter f args => exact ⟨h3.1, v, h3.2, h4⟩
        case value u => obtain ⟨rfl, rfl⟩ := h3; exact ⟨rfl, h4⟩
        case skip => obtain ⟨rfl, rfl⟩ := h3; exact ⟨rfl, h4⟩
      | halt x w' => simp only [Oper.quietUpon] at h3
    · rename_i hw
      rw [if_neg hw] at h
      exact still_of_quiet rest _ h
theorem region_tail {P : Program} {id : Nat} {Q : Exit → Act → World → Prop} {a : Act} {w : World} {l : List Oper} (n : Nat) (hm : P.follows .mixedOrders = true) (hB : Region.lexTailB .any l.toArray n = true)
    (h : wpQuiet P l.toArray (fun w' => w' = w.drew) (fun a' => wpList P l.toArray Q (l.drop n) a' w.drew) (l.take n) a) : (Code.region id l.toArray true).wp P Q a w :=
  wp_region_still_tail n hm hB (still_of_quiet _ _ h)
end Go.Proofs.Ytgmlhpkhecbkoaa
