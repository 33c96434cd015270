/-
  An abstract machine: a trie; abstract values and the values they stand for. No condition.
  The abstract machine's memory, and what it stands for. No condition.
  The abstract machine: what it knows of types and functions; operands; cells read and written. No condition.
  The abstract machine's operations, first part: what it answers is what the model's operations answer. No condition.
-/
import Derived.WalkKit
import Derived.WalkSpells
import Derived.Below
import Derived.Laws.Cells
import Derived.Laws.IdiomCopy
import Derived.Laws.Entries
set_option linter.unusedSectionVars false
set_option linter.unusedSimpArgs false
set_option linter.unusedVariables false
set_option linter.unnecessarySimpa false
namespace Go.Proofs.YtoicnghjjgkebaaGreatDoor
namespace AM
open Go.RowKit

/-- A map from numbers. -/
inductive Tri (α : Type) where
  | nil
  | node (v : Option α) (l r : Tri α)
def Tri.get {α : Type} : Tri α → Nat → Option α
  | .nil, _ => none
  | .node v l r, k => bif Nat.beq k 0 then v else bif Nat.beq (k % 2) 1 then l.get (k / 2) else r.get (k / 2 - 1)
def Tri.set {α : Type} : Nat → Tri α → Nat → α → Tri α
  | 0, t, _, _ => t
  | f + 1, .nil, k, x => bif Nat.beq k 0 then .node (some x) .nil .nil else
      bif Nat.beq (k % 2) 1 then .node none (Tri.set f .nil (k / 2) x) .nil else .node none .nil (Tri.set f .nil (k / 2 - 1) x)
  | f + 1, .node v l r, k, x => bif Nat.beq k 0 then .node (some x) l r else
      bif Nat.beq (k % 2) 1 then .node v (Tri.set f l (k / 2) x) r else .node v l (Tri.set f r (k / 2 - 1) x)
theorem beq_ne {a b : Nat} (h : ¬ a = b) : Nat.beq a b = false := by
  cases e : Nat.beq a b
  · rfl
  · exact absurd (Nat.eq_of_beq_eq_true e) h
theorem Tri.get_node {α : Type} (v : Option α) (l r : Tri α) (k : Nat) : (Tri.node v l r).get k = if k = 0 then v else if k % 2 = 1 then l.get (k / 2) else r.get (k / 2 - 1) := by
  rw [Tri.get]
  by_cases h : k = 0
  · subst h; rfl
  · rw [beq_ne h, cond_false, if_neg h]
    by_cases h1 : k % 2 = 1
    · rw [h1, if_pos rfl]; rfl
    · rw [beq_ne h1, cond_false, if_neg h1]
theorem Tri.set_node {α : Type} (f : Nat) (v : Option α) (l r : Tri α) (k : Nat) (x : α) : Tri.set (f + 1) (.node v l r) k x =
    if k = 0 then .node (some x) l r else if k % 2 = 1 then .node v (Tri.set f l (k / 2) x) r else .node v l (Tri.set f r (k / 2 - 1) x) := by
  rw [Tri.set]
  by_cases h : k = 0
  · subst h; rfl
  · rw [beq_ne h, cond_false, if_neg h]
    by_cases h1 : k % 2 = 1
    · rw [h1, if_pos rfl]; rfl
    · rw [beq_ne h1, cond_false, if_neg h1]
theorem Tri.get_nil_node {α : Type} (j : Nat) : (Tri.node (none : Option α) .nil .nil).get j = none := by
  rw [Tri.get_node]; split
  · rfl
  · split <;> rfl
theorem Tri.set_nil {α : Type} (f k : Nat) (x : α) : Tri.set (f + 1) .nil k x = Tri.set (f + 1) (.node none .nil .nil) k x := by
  rw [Tri.set, Tri.set]
theorem Tri.get_set {α : Type} : ∀ (f : Nat) (t : Tri α) (k j : Nat) (x : α), k + 1 < 2 ^ f → (Tri.set f t k x).get j = if j = k then some x else t.get j
  | 0, t, k, j, x, h => by
    simp at h
  | f + 1, t, k, j, x, h => by
    have key : ∀ (v : Option α) (l r : Tri α), (Tri.set (f + 1) (.node v l r) k x).get j = if j = k then some x else (Tri.node v l r).get j := by
      intro v l r
      rw [Tri.set_node]
      by_cases hk : k = 0
      · subst hk
        rw [if_pos rfl, Tri.get_node, Tri.get_node]
        by_cases hj : j = 0 <;> simp [hj]
      · rw [if_neg hk]
        have hp : 2 ^ (f + 1) = 2 ^ f * 2 := Nat.pow_succ 2 f
        by_cases hk1 : k % 2 = 1
        · rw [if_pos hk1, Tri.get_node, Tri.get_node, Tri.get_set f l (k / 2) (j / 2) x (by omega)]
          by_cases hj : j = 0
          · rw [if_pos hj, if_pos hj, if_neg (by omega)]
          · rw [if_neg hj, if_neg hj]
            by_cases hj1 : j % 2 = 1
            · rw [if_pos hj1, if_pos hj1]
              by_cases he : j = k
              · rw [if_pos he, if_pos (by rw [he])]
              · rw [if_neg he, if_neg (by omega)]
            · rw [if_neg hj1, if_neg hj1, if_neg (by rintro rfl; exact hj1 hk1)]
        · rw [if_neg hk1, Tri.get_node, Tri.get_node, Tri.get_set f r (k / 2 - 1) (j / 2 - 1) x (by omega)]
          by_cases hj : j = 0
          · rw [if_pos hj, if_pos hj, if_neg (by omega)]
          · rw [if_neg hj, if_neg hj]
            by_cases hj1 : j % 2 = 1
            · rw [if_pos hj1, if_pos hj1, if_neg (by rintro rfl; exact hk1 hj1)]
            · rw [if_neg hj1, if_neg hj1]
              by_cases he : j = k
              · rw [if_pos he, if_pos (by rw [he])]
              · rw [if_neg he, if_neg (by omega)]
    cases t with
    | node v l r => exact key v l r
    | nil =>
      rw [Tri.set_nil, key none .nil .nil, Tri.get_nil_node]
      rfl

/-- The numbers below stand for themselves: variables of packages. -/
def glob : Nat := 16
/-- Where an abstract block lies, and how many cells lie there. -/
structure Mp where
  f : Nat → Option (Nat × Nat)
  N : Nat
  wf : ∀ k, N ≤ k → f k = none
  gl : ∀ k, k < glob → ∃ s, f k = some (k, s)
theorem Mp.glob_lt (μ : Mp) {k : Nat} (h : μ.f k = none) : ¬ k < glob := fun hk => by
  obtain ⟨s, e⟩ := μ.gl k hk
  rw [h] at e; cases e
instance : CoeFun Mp (fun _ => Nat → Option (Nat × Nat)) := ⟨Mp.f⟩
/-- A capacity e * big + c: of elements of e cells, of which no more is known than that it is at least c. -/
def big : Nat := 18446744073709551616
/-- Tokens: values of which no more is known than which they are. -/
class Toks where
  kd : Nat → IntKind
  i : Nat → Int
  s : Nat → ByteArray
  b : Nat → Bool
variable [Toks]
inductive VR (μ : Mp) : Value → Value → Prop where
  | bool (b : Bool) : VR μ (.bool b) (.bool b)
  | int (k : IntKind) (n : Int) : VR μ (.int k n) (.int k n)
  | string (s : ByteArray) : VR μ (.string s) (.string s)
  | pnil : VR μ (.pointer none) (.pointer none)
  | ptr {k g s : Nat} (o : Nat) : μ k = some (g, s) → VR μ (.pointer (some ⟨k, o, none⟩)) (.pointer (some ⟨g, o, none⟩))
  | snil (n c : Nat) : VR μ (.slice none n c) (.slice none n c)
  | sl {k g s : Nat} (o n c : Nat) : μ k = some (g, s) → c < big → VR μ (.slice (some ⟨k, o, none⟩) n c) (.slice (some ⟨g, o, none⟩) n c)
  | slx {k g s : Nat} (o n c c' e : Nat) : μ k = some (g, s) → o + c' * e = s → 0 < e → n ≤ c → c ≤ c' → c < big → VR μ (.slice (some ⟨k, o, none⟩) n (e * big + c)) (.slice (some ⟨g, o, none⟩) n c')
  | mnil : VR μ (.map none) (.map none)
  | map {k g s : Nat} : μ k = some (g, s) → VR μ (.map (some k)) (.map (some g))
  | nilFunc : VR μ .nilFunc .nilFunc
  | nilIface : VR μ .nilIface .nilIface
  | iface (t : TypeId) {v v' : Value} : VR μ v v' → VR μ (.iface t v) (.iface t v')
  | func (f : FuncId) {a a' c c' : Array Value} : a.size = a'.size → (∀ (i : Nat) (v v' : Value), a[i]? = some v → a'[i]? = some v' → VR μ v v') →
      c.size = c'.size → (∀ (i : Nat) (v v' : Value), c[i]? = some v → c'[i]? = some v' → VR μ v v') → VR μ (.func (.func f) a c) (.func (.func f) a' c')
  | yield {k g s : Nat} : μ k = some (g, s) → VR μ (.func (.yield k) #[] #[]) (.func (.yield g) #[] #[])
  | agg {c c' : Array Value} : c.size = c'.size → (∀ (i : Nat) (v v' : Value), c[i]? = some v → c'[i]? = some v' → VR μ v v') → VR μ (.agg c) (.agg c')
  | unkI (k : IntKind) (n : Int) : VR μ (.chan none) (.int k n)
  | unkS (s : ByteArray) : VR μ (.chan (some 0)) (.string s)
  | unkN (n : Int) : VR μ (.chan (some 1)) (.int .i64 n)
  | unkB (b : Bool) : VR μ (.chan (some 2)) (.bool b)
  | tokI (q : FloatKind) (k : Nat) : VR μ (.complex q 0 k) (.int (Toks.kd k) (Toks.i k))
  | tokS (q : FloatKind) (k : Nat) : VR μ (.complex q 1 k) (.string (Toks.s k))
  | tokB (q : FloatKind) (k : Nat) : VR μ (.complex q 2 k) (.bool (Toks.b k))
  | tuple {c c' : Array Value} : c.size = c'.size → (∀ (i : Nat) (v v' : Value), c[i]? = some v → c'[i]? = some v' → VR μ v v') → VR μ (.tuple c) (.tuple c')
/-- More is known. -/
def Mp.sub (μ ν : Mp) : Prop := ∀ k l, μ k = some l → ν k = some l
/-- More is known, of new blocks alone. -/
def Mp.le (μ ν : Mp) : Prop := μ.N ≤ ν.N ∧ ∀ k, k < μ.N → ν k = μ k
theorem Mp.le.sub {μ ν : Mp} (h : μ.le ν) : μ.sub ν := fun k l e => by
  rcases Nat.lt_or_ge k μ.N with hk | hk
  · rw [h.2 k hk]; exact e
  · rw [μ.wf k hk] at e; cases e
theorem Mp.le.refl (μ : Mp) : μ.le μ := ⟨Nat.le_refl _, fun _ _ => rfl⟩
theorem Mp.le.trans {μ ν ξ : Mp} (h : μ.le ν) (k : ν.le ξ) : μ.le ξ := ⟨Nat.le_trans h.1 k.1, fun j hj => (k.2 j (Nat.lt_of_lt_of_le hj h.1)).trans (h.2 j hj)⟩
theorem VR.monoS {μ ν : Mp} (h : μ.sub ν) {v v' : Value} (r : VR μ v v') : VR ν v v' := by
  induction r with
  | bool b => exact .bool b
  | int k n => exact .int k n
  | string s => exact .string s
  | pnil => exact .pnil
  | ptr o e => exact .ptr o (h _ _ e)
  | snil n c => exact .snil n c
  | sl o n c e hc => exact .sl o n c (h _ _ e) hc
  | slx o n c c' e he a b d f i => exact .slx o n c c' e (h _ _ he) a b d f i
  | mnil => exact .mnil
  | map e => exact .map (h _ _ e)
  | nilFunc => exact .nilFunc
  | nilIface => exact .nilIface
  | iface t _ ih => exact .iface t ih
  | func f ha _ hc _ ih1 ih2 => exact .func f ha ih1 hc ih2
  | yield e => exact .yield (h _ _ e)
  | agg ha _ ih => exact .agg ha ih
  | tuple ha _ ih => exact .tuple ha ih
  | unkI k n => exact .unkI k n
  | unkS s => exact .unkS s
  | unkN n => exact .unkN n
  | unkB b => exact .unkB b
  | tokI q k => exact .tokI q k
  | tokS q k => exact .tokS q k
  | tokB q k => exact .tokB q k
theorem VR.mono {μ ν : Mp} (h : μ.le ν) {v v' : Value} (r : VR μ v v') : VR ν v v' := r.monoS h.sub
/-- Rows of values. -/
def AR (μ : Mp) (a a' : Array Value) : Prop := a.size = a'.size ∧ ∀ (i : Nat) (v v' : Value), a[i]? = some v → a'[i]? = some v' → VR μ v v'
theorem AR.get {μ : Mp} {a a' : Array Value} (r : AR μ a a') {i : Nat} {v : Value} (h : a[i]? = some v) : ∃ v', a'[i]? = some v' ∧ VR μ v v' := by
  obtain ⟨hi, _⟩ := Array.getElem?_eq_some_iff.1 h
  have hi' : i < a'.size := by rw [← r.1]; exact hi
  exact ⟨a'[i], Array.getElem?_eq_getElem hi', r.2 i _ _ h (Array.getElem?_eq_getElem hi')⟩
/-- Lists of values. -/
def LR (μ : Mp) (l l' : List Value) : Prop := l.length = l'.length ∧ ∀ (i : Nat) (v v' : Value), l[i]? = some v → l'[i]? = some v' → VR μ v v'
theorem LR.mono {μ ν : Mp} (h : μ.le ν) {a a' : List Value} (r : LR μ a a') : LR ν a a' := ⟨r.1, fun i v v' h1 h2 => (r.2 i v v' h1 h2).mono h⟩
theorem LR.nil (μ : Mp) : LR μ [] [] := ⟨rfl, by simp⟩
theorem LR.cons {μ : Mp} {v v' : Value} {l l' : List Value} (h : VR μ v v') (r : LR μ l l') : LR μ (v :: l) (v' :: l') := by
  refine ⟨by simp [r.1], fun i x x' h1 h2 => ?_⟩
  cases i with
  | zero => simp at h1 h2; subst h1; subst h2; exact h
  | succ i => simp at h1 h2; exact r.2 i x x' h1 h2
theorem LR.inv {μ : Mp} {v : Value} {l m : List Value} (r : LR μ (v :: l) m) : ∃ v' l', m = v' :: l' ∧ VR μ v v' ∧ LR μ l l' := by
  cases m with
  | nil => have := r.1; simp at this
  | cons v' l' =>
    refine ⟨v', l', rfl, r.2 0 v v' rfl rfl, by have := r.1; simpa using this, fun i x x' h1 h2 => r.2 (i + 1) x x' (by simpa using h1) (by simpa using h2)⟩
theorem LR.inv_nil {μ : Mp} {m : List Value} (r : LR μ [] m) : m = [] := by
  have := r.1; simp at this; exact List.eq_nil_of_length_eq_zero this.symm
theorem LR.append {μ : Mp} {l l' m m' : List Value} (r : LR μ l l') (s : LR μ m m') : LR μ (l ++ m) (l' ++ m') := by
  induction l generalizing l' with
  | nil => rw [r.inv_nil]; exact s
  | cons v l ih =>
    obtain ⟨v', k, rfl, hv, hk⟩ := r.inv
    exact .cons hv (ih hk)
theorem AR.toList {μ : Mp} {a a' : Array Value} (r : AR μ a a') : LR μ a.toList a'.toList := ⟨by simpa using r.1, fun i v v' h1 h2 => r.2 i v v' (by simpa using h1) (by simpa using h2)⟩
theorem LR.toArray {μ : Mp} {a a' : List Value} (r : LR μ a a') : AR μ a.toArray a'.toArray := ⟨by simpa using r.1, fun i v v' h1 h2 => r.2 i v v' (by simpa using h1) (by simpa using h2)⟩
end AM
end Go.Proofs.YtoicnghjjgkebaaGreatDoor
namespace Go.Proofs.YtoicnghjjgkebaaGreatDoor
namespace AM
open Go.RowKit
variable [Toks]

/-- A block: cells (are they all that lie there? may they be written?), a map's entries (key, value, stamp), an iterator over a string, or one that nobody may look at any more. -/
inductive Blk where
  | cells (c : List Value) (elem : TypeId) (exact rw : Bool)
  | map (es : List (Value × Value × Nat)) (clock : Nat)
  | rmap (es : List (Value × Value × Nat)) (clock : Nat)
  | miter (m : Option Nat) (since : Nat) (seen : List Nat) (stepped : Nat)
  | siter (s : ByteArray) (pos : Nat)
  | loop (st : LoopState) (pend : Option Code) (T : Tri Value) (n : Nat) (ps : Array Tmp) (assign body : Code) (d : Nat)
  | dfr
  | dead
def Blk.own : Blk → Bool
  | .cells _ _ _ rw => rw
  | .dead | .rmap _ _ => false
  | _ => true
def Blk.live : Blk → Bool
  | .dead => false
  | _ => true
theorem Blk.live_own {b : Blk} (h : b.own = true) : b.live = true := by cases b <;> simp_all [Blk.own, Blk.live]
/-- The memory. -/
structure AH where
  t : Tri Blk
  next : Nat
def AH.alloc (H : AH) (b : Blk) : AH := ⟨H.t.set 40 H.next b, H.next + 1⟩
def AH.put (H : AH) (k : Nat) (b : Blk) : AH := ⟨H.t.set 40 k b, H.next⟩

def BlkR (μ : Mp) (s : Nat) : Blk → Obj → Prop
  | .cells c e x rw, o => ∃ C fr e', o = .cells C e' fr ∧ C.size = s ∧ (rw = true → e' = e ∧ (fr = (0, 0) ∨ s ≤ fr.1)) ∧ (x = true → s = c.length) ∧ c.length ≤ s ∧
      ∀ (i : Nat) (v : Value), c[i]? = some v → ∃ v', C[i]? = some v' ∧ VR μ v v'
  | .map es n, o => ∃ E, o = .map E n ∧ E.size = es.length ∧ ∀ (i : Nat) (e : Value × Value × Nat) (e' : MapEntry), es[i]? = some e → E[i]? = some e' → VR μ e.1 e'.key ∧ VR μ e.2.1 e'.val ∧ e'.born = e.2.2
  | .rmap es n, o => ∃ E, o = .map E n ∧ E.size = es.length ∧ ∀ (i : Nat) (e : Value × Value × Nat) (e' : MapEntry), es[i]? = some e → E[i]? = some e' → VR μ e.1 e'.key ∧ VR μ e.2.1 e'.val ∧ e'.born = e.2.2
  | .miter none since seen st, o => o = .mapIter none since seen.toArray st
  | .miter (some m) since seen st, o => ∃ g z, μ m = some (g, z) ∧ o = .mapIter (some g) since seen.toArray st
  | .siter t p, o => o = .stringIter t p
  | .loop st pend T n ps as bd d, o => ∃ fn tmps d', o = .loop { state := st, pending := pend, fn := fn, tmps := tmps, params := ps, assign := as, body := bd, defers := d' } ∧ tmps.size = n ∧
      (∀ (t : Nat) (v : Value), T.get t = some v → ∃ v', tmps[t]? = some v' ∧ VR μ v v') ∧ ∃ z, μ d = some (d', z)
  | .dfr, o => o = .deferred (some [])
  | .dead, _ => True
theorem BlkR.monoS {μ ν : Mp} (h : μ.sub ν) {s : Nat} {b : Blk} {o : Obj} (r : BlkR μ s b o) : BlkR ν s b o := by
  cases b with
  | cells c e x rw =>
    obtain ⟨C, fr, e', a1, a2, a3, a4, a5, a6⟩ := r
    exact ⟨C, fr, e', a1, a2, a3, a4, a5, fun i v hv => let ⟨v', k1, k2⟩ := a6 i v hv; ⟨v', k1, k2.monoS h⟩⟩
  | map es n =>
    obtain ⟨E, a1, a2, a3⟩ := r
    exact ⟨E, a1, a2, fun i e e' h1 h2 => let ⟨k1, k2, k3⟩ := a3 i e e' h1 h2; ⟨k1.monoS h, k2.monoS h, k3⟩⟩
  | rmap es n =>
    obtain ⟨E, a1, a2, a3⟩ := r
    exact ⟨E, a1, a2, fun i e e' h1 h2 => let ⟨k1, k2, k3⟩ := a3 i e e' h1 h2; ⟨k1.monoS h, k2.monoS h, k3⟩⟩
  | miter m since seen st =>
    cases m with
    | none => exact r
    | some m =>
      obtain ⟨g, z, a1, a2⟩ := r
      exact ⟨g, z, h _ _ a1, a2⟩
  | siter t p => exact r
  | loop st pend T n ps as bd d =>
    obtain ⟨fn, tmps, d', a1, a2, a3, z, a4⟩ := r
    exact ⟨fn, tmps, d', a1, a2, fun t v hv => let ⟨v', k1, k2⟩ := a3 t v hv; ⟨v', k1, k2.monoS h⟩, z, h _ _ a4⟩
  | dfr => exact r
  | dead => trivial

theorem BlkR.mono {μ ν : Mp} (h : μ.le ν) {s : Nat} {b : Blk} {o : Obj} (r : BlkR μ s b o) : BlkR ν s b o := r.monoS h.sub
/-- A world, and blocks of it that stay as they are. -/
structure Base where
  w : World
  B : Nat → Prop
  L : Nat → Prop
  bound : ∀ g, B g → g < w.heap.size
  lbound : ∀ g, L g → g < w.heap.size
structure Rel (μ : Mp) (H : AH) (w0 : Base) (w : World) : Prop where
  os : w.os = w0.w.os
  tape : w.tape = w0.w.tape
  output : w.output = w0.w.output
  size : w0.w.heap.size ≤ w.heap.size
  keep : ∀ g, w0.B g → w.heap[g]? = w0.w.heap[g]?
  small : H.next < 2 ^ 40
  num : μ.N = H.next
  lies : ∀ k b, H.t.get k = some b → ∃ g s, μ k = some (g, s) ∧ (b.live = true → ∃ o, w.heap[g]? = some o ∧ BlkR μ s b o) ∧ (b.own = true → ¬ w0.B g)
  apart : ∀ k j b c, H.t.get k = some b → H.t.get j = some c → k ≠ j → b.own = true → c.live = true → ∀ g s g' s', μ k = some (g, s) → μ j = some (g', s') → g ≠ g'
  ro : ∀ k b, H.t.get k = some b → b.live = true → b.own = false → ∀ g s, μ k = some (g, s) → w0.L g

theorem Rel.room {μ : Mp} {H : AH} {w0 : Base} {w : World} (h : Rel μ H w0 w) (k : Nat) (l : Nat × Nat) (e : μ k = some l) : k < H.next := by
  rw [← h.num]
  rcases Nat.lt_or_ge k μ.N with hk | hk
  · exact hk
  · rw [μ.wf k hk] at e; cases e
theorem Rel.get_lt {μ : Mp} {H : AH} {w0 : Base} {w : World} (h : Rel μ H w0 w) {k : Nat} {b : Blk} (hk : H.t.get k = some b) : k < H.next := by
  obtain ⟨g, s, e, _⟩ := h.lies k b hk
  exact h.room k _ e
theorem Rel.get_put {μ : Mp} {H : AH} {w0 : Base} {w : World} (h : Rel μ H w0 w) {k : Nat} (hk : k < H.next) (b : Blk) (j : Nat) : (H.put k b).t.get j = if j = k then some b else H.t.get j :=
  Tri.get_set 40 H.t k j b (by have := h.small; omega)
theorem get_alloc {H : AH} (hn : H.next + 1 < 2 ^ 40) (b : Blk) (j : Nat) : (H.alloc b).t.get j = if j = H.next then some b else H.t.get j :=
  Tri.get_set 40 H.t H.next j b hn

/-- A new block. -/
theorem Rel.alloc {μ : Mp} {H : AH} {w0 : Base} {w : World} (h : Rel μ H w0 w) (hn : H.next + 1 < 2 ^ 40) {b : Blk} {o : Obj} {s : Nat} (hb : BlkR μ s b o) (hbo : b.own = true := by rfl) :
    ∃ ν : Mp, μ.le ν ∧ ν H.next = some (w.heap.size, s) ∧ Rel ν (H.alloc b) w0 (w.alloc o) := by
  let ν : Mp := ⟨fun k => if k = H.next then some (w.heap.size, s) else μ k, H.next + 1, fun k hk => by
    show (if k = H.next then _ else _) = _
    rw [if_neg (by omega)]; exact μ.wf k (by rw [h.num]; omega), fun k hk => by
    show ∃ s', (if k = H.next then _ else _) = _
    rw [if_neg (fun e => μ.glob_lt (μ.wf k (by rw [h.num, e]; exact Nat.le_refl _)) hk)]; exact μ.gl k hk⟩
  have hνd : ∀ k, ν k = if k = H.next then some (w.heap.size, s) else μ k := fun _ => rfl
  have hle : μ.le ν := ⟨by show μ.N ≤ H.next + 1; rw [h.num]; omega, fun k hk => by
    rw [hνd, if_neg (by rw [h.num] at hk; omega)]⟩
  have hlow : ∀ k b, H.t.get k = some b → b.live = true → ∀ g s, μ k = some (g, s) → g < w.heap.size := by
    intro k b hk hl g s e
    obtain ⟨g', s', e', l1, _⟩ := h.lies k b hk
    rw [e] at e'; cases e'
    obtain ⟨o', ho, _⟩ := l1 hl
    exact (Array.getElem?_eq_some_iff.1 ho).1
  refine ⟨ν, hle, by rw [hνd, if_pos rfl], ?_⟩
  refine ⟨h.os, h.tape, h.output, Nat.le_trans h.size (by simp), fun g hg => ?_, by simpa [AH.alloc] using hn, rfl, ?_, ?_, ?_⟩
  · rw [Below.heap_alloc _ _ _ (Nat.lt_of_lt_of_le (w0.bound g hg) h.size)]; exact h.keep g hg
  · intro k c hk
    rw [get_alloc hn] at hk
    by_cases e : k = H.next
    · rw [if_pos e] at hk
      cases hk
      refine ⟨w.heap.size, s, by rw [hνd, if_pos e], fun _ => ⟨o, Array.getElem?_push_size, hb.mono hle⟩, fun _ hB => by have := w0.bound _ hB; have := h.size; omega⟩
    · rw [if_neg e] at hk
      obtain ⟨g, s', e1, l1, l2⟩ := h.lies k c hk
      refine ⟨g, s', by rw [hνd, if_neg e]; exact e1, fun hl => ?_, l2⟩
      obtain ⟨o', ho, hr⟩ := l1 hl
      have hlt := hlow k c hk hl g s' e1
      refine ⟨o', ?_, hr.mono hle⟩
      rw [Below.heap_alloc _ _ _ hlt]; exact ho
  · intro k j b1 c1 hk hj hne hown hlive g s1 g' s1' ek ej
    rw [get_alloc hn] at hk hj
    rw [hνd] at ek ej
    by_cases e : k = H.next
    · rw [if_pos e] at hk ek
      rw [if_neg (by omega)] at hj ej
      cases ek
      have := hlow j c1 hj hlive g' s1' ej
      omega
    · rw [if_neg e] at hk ek
      by_cases e2 : j = H.next
      · rw [if_pos e2] at hj ej
        cases ej
        have := hlow k b1 hk (Blk.live_own hown) g s1 ek
        omega
      · rw [if_neg e2] at hj ej
        exact h.apart k j b1 c1 hk hj hne hown hlive g s1 g' s1' ek ej
  · intro k c hk hl ho g s1 ek
    rw [get_alloc hn] at hk
    rw [hνd] at ek
    by_cases e : k = H.next
    · rw [if_pos e] at hk; cases hk; rw [hbo] at ho; cases ho
    · rw [if_neg e] at hk ek; exact h.ro k c hk hl ho g s1 ek

/-- What lies in a cell. -/
theorem Rel.cell {μ : Mp} {H : AH} {w0 : Base} {w : World} (h : Rel μ H w0 w) {k : Nat} {c : List Value} {e : TypeId} {x rw : Bool} (hk : H.t.get k = some (.cells c e x rw)) {g s : Nat} (hm : μ k = some (g, s))
    {i : Nat} {v : Value} (hv : c[i]? = some v) : ∃ v', w.cell? ⟨g, i, none⟩ = some v' ∧ VR μ v v' := by
  obtain ⟨g', s', e1, l1, _⟩ := h.lies k _ hk
  rw [hm] at e1; cases e1
  obtain ⟨o, ho, C, fr, e', rfl, _, _, _, _, hc⟩ := l1 rfl
  obtain ⟨v', h1, h2⟩ := hc i v hv
  exact ⟨v', by simp [World.cell?, ho, h1], h2⟩
/-- A block's object is written anew. -/
def World.over (w : World) (g : Nat) (o : Obj) : World := { w with heap := w.heap.setIfInBounds g o }
theorem World.over_get (w : World) {g : Nat} (o : Obj) (hg : g < w.heap.size) (j : Nat) : (World.over w g o).heap[j]? = if j = g then some o else w.heap[j]? := by
  unfold World.over
  dsimp only
  rw [Array.getElem?_setIfInBounds]
  by_cases e : g = j
  · subst e; simp [hg]
  · rw [if_neg e, if_neg (fun h => e h.symm)]
theorem Rel.over {μ : Mp} {H : AH} {w0 : Base} {w : World} (h : Rel μ H w0 w) {k : Nat} {b b' : Blk} (hk : H.t.get k = some b) (hown : b.own = true) (hown' : b'.own = true) {g s : Nat} (hm : μ k = some (g, s)) {o : Obj} (ho : BlkR μ s b' o) :
    Rel μ (H.put k b') w0 (World.over w g o) := by
  have hlt := h.get_lt hk
  obtain ⟨g', s', e1, l1, l2⟩ := h.lies k b hk
  rw [hm] at e1; cases e1
  obtain ⟨o0, ho0, _⟩ := l1 (Blk.live_own hown)
  have hg : g < w.heap.size := (Array.getElem?_eq_some_iff.1 ho0).1
  have hg0 := l2 hown
  refine ⟨h.os, h.tape, h.output, by simpa [World.over] using h.size, fun j hj => ?_, h.small, h.num, ?_, ?_, ?_⟩
  · rw [World.over_get _ _ hg, if_neg (fun (e : j = g) => hg0 (by rw [← e]; exact hj))]; exact h.keep j hj
  · intro j c hj
    rw [h.get_put hlt] at hj
    by_cases e : j = k
    · rw [if_pos e] at hj; cases hj
      subst e
      exact ⟨g, s, hm, fun _ => ⟨o, by rw [World.over_get _ _ hg, if_pos rfl], ho⟩, fun _ => hg0⟩
    · rw [if_neg e] at hj
      obtain ⟨g1, s1, m1, k1, k2⟩ := h.lies j c hj
      refine ⟨g1, s1, m1, fun hl => ?_, k2⟩
      obtain ⟨o1, ho1, r1⟩ := k1 hl
      have := h.apart k j b c hk hj (fun e' => e e'.symm) hown hl g s g1 s1 hm m1
      exact ⟨o1, by rw [World.over_get _ _ hg, if_neg (fun e' => this e'.symm)]; exact ho1, r1⟩
  · intro i j b1 c1 hi hj hne ho1 hl1 g1 s1 g2 s2 m1 m2
    rw [h.get_put hlt] at hi hj
    by_cases e : i = k
    · rw [if_pos e] at hi; cases hi
      subst e
      rw [if_neg (fun e' => hne e'.symm)] at hj
      exact h.apart i j b c1 hk hj hne hown hl1 g1 s1 g2 s2 m1 m2
    · rw [if_neg e] at hi
      by_cases e2 : j = k
      · subst e2
        exact h.apart i j b1 b hi hk hne ho1 (Blk.live_own hown) g1 s1 g2 s2 m1 m2
      · rw [if_neg e2] at hj
        exact h.apart i j b1 c1 hi hj hne ho1 hl1 g1 s1 g2 s2 m1 m2
  · intro j c hj hl ho g1 s1 m1
    rw [h.get_put hlt] at hj
    by_cases e : j = k
    · rw [if_pos e] at hj; cases hj; rw [hown'] at ho; cases ho
    · rw [if_neg e] at hj; exact h.ro j c hj hl ho g1 s1 m1
/-- Nobody looks at a block any more. -/
theorem Rel.kill {μ : Mp} {H : AH} {w0 : Base} {w : World} (h : Rel μ H w0 w) {k : Nat} {b : Blk} (hk : H.t.get k = some b) : Rel μ (H.put k .dead) w0 w := by
  have hlt := h.get_lt hk
  refine ⟨h.os, h.tape, h.output, h.size, h.keep, h.small, h.num, ?_, ?_, ?_⟩
  · intro j c hj
    rw [h.get_put hlt] at hj
    by_cases e : j = k
    · rw [if_pos e] at hj; cases hj
      subst e
      obtain ⟨g, s, m, _⟩ := h.lies j b hk
      exact ⟨g, s, m, fun hl => by simp [Blk.live] at hl, fun hl => by simp [Blk.own] at hl⟩
    · rw [if_neg e] at hj; exact h.lies j c hj
  · intro i j b1 c1 hi hj hne ho1 hl1
    rw [h.get_put hlt] at hi hj
    by_cases e : i = k
    · rw [if_pos e] at hi; cases hi; simp [Blk.own] at ho1
    · rw [if_neg e] at hi
      by_cases e2 : j = k
      · rw [if_pos e2] at hj; cases hj; simp [Blk.live] at hl1
      · rw [if_neg e2] at hj; exact h.apart i j b1 c1 hi hj hne ho1 hl1
  · intro j c hj hl ho
    rw [h.get_put hlt] at hj
    by_cases e : j = k
    · rw [if_pos e] at hj; cases hj; simp [Blk.live] at hl
    · rw [if_neg e] at hj; exact h.ro j c hj hl ho
/-- A block of one's own that is changed in whichever way; nobody looks at it any more. -/
theorem Rel.bury {μ : Mp} {H : AH} {w0 : Base} {w : World} (h : Rel μ H w0 w) {k : Nat} {b : Blk} (hk : H.t.get k = some b) (hown : b.own = true) {g s : Nat} (hm : μ k = some (g, s)) (o : Obj) :
    Rel μ (H.put k .dead) w0 (World.over w g o) := by
  have hlt := h.get_lt hk
  obtain ⟨g', s', e1, l1, l2⟩ := h.lies k b hk
  rw [hm] at e1; cases e1
  obtain ⟨o0, ho0, _⟩ := l1 (Blk.live_own hown)
  have hg : g < w.heap.size := (Array.getElem?_eq_some_iff.1 ho0).1
  have hg0 := l2 hown
  refine ⟨h.os, h.tape, h.output, by simpa [World.over] using h.size, fun j hj => ?_, h.small, h.num, ?_, ?_, ?_⟩
  · rw [World.over_get _ _ hg, if_neg (fun (e : j = g) => hg0 (by rw [← e]; exact hj))]; exact h.keep j hj
  · intro j c hj
    rw [h.get_put hlt] at hj
    by_cases e : j = k
    · rw [if_pos e] at hj; cases hj
      subst e
      exact ⟨g, s, hm, fun hl => by simp [Blk.live] at hl, fun hl => by simp [Blk.own] at hl⟩
    · rw [if_neg e] at hj
      obtain ⟨g1, s1, m1, k1, k2⟩ := h.lies j c hj
      refine ⟨g1, s1, m1, fun hl => ?_, k2⟩
      obtain ⟨o1, ho1, r1⟩ := k1 hl
      have := h.apart k j b c hk hj (fun e' => e e'.symm) hown hl g s g1 s1 hm m1
      exact ⟨o1, by rw [World.over_get _ _ hg, if_neg (fun e' => this e'.symm)]; exact ho1, r1⟩
  · intro i j b1 c1 hi hj hne ho1 hl1
    rw [h.get_put hlt] at hi hj
    by_cases e : i = k
    · rw [if_pos e] at hi; cases hi; simp [Blk.own] at ho1
    · rw [if_neg e] at hi
      by_cases e2 : j = k
      · rw [if_pos e2] at hj; cases hj; simp [Blk.live] at hl1
      · rw [if_neg e2] at hj; exact h.apart i j b1 c1 hi hj hne ho1 hl1
  · intro j c hj hl ho
    rw [h.get_put hlt] at hj
    by_cases e : j = k
    · rw [if_pos e] at hj; cases hj; simp [Blk.live] at hl
    · rw [if_neg e] at hj; exact h.ro j c hj hl ho
theorem setCell_over (w : World) {g : Nat} {C : Array Value} {e : TypeId} {fr : Nat × Nat} (hg : w.heap[g]? = some (.cells C e fr)) (i : Nat) (v : Value) :
    w.setCell ⟨g, i, none⟩ v = World.over w g (.cells (C.setIfInBounds i v) e fr) := by
  unfold World.setCell World.over
  congr 1
  apply Array.ext_getElem?
  intro j
  rw [Array.getElem?_modify, Array.getElem?_setIfInBounds]
  have hlt : g < w.heap.size := (Array.getElem?_eq_some_iff.1 hg).1
  by_cases ej : g = j
  · subst ej
    have hg' : w.heap[g] = .cells C e fr := by rw [Array.getElem?_eq_getElem hlt] at hg; exact Option.some.inj hg
    simp [hlt, hg']
  · simp [ej]
/-- A cell is written. -/
theorem Rel.store {μ : Mp} {H : AH} {w0 : Base} {w : World} (h : Rel μ H w0 w) {k : Nat} {c : List Value} {e : TypeId} {x : Bool} (hk : H.t.get k = some (.cells c e x true)) {g s : Nat} (hm : μ k = some (g, s))
    {i : Nat} (hi : i < c.length) {v v' : Value} (hv : VR μ v v') :
    (∃ u, w.cell? ⟨g, i, none⟩ = some u) ∧ w.frozen? ⟨g, i, none⟩ = false ∧ Rel μ (H.put k (.cells (c.set i v) e x true)) w0 (w.setCell ⟨g, i, none⟩ v') := by
  obtain ⟨g', s', e1, l1, _⟩ := h.lies k _ hk
  rw [hm] at e1; cases e1
  obtain ⟨o, ho, C, fr, e', rfl, q1, q2, q3, q4, hc⟩ := l1 rfl
  obtain ⟨he, hfr⟩ := q2 rfl
  rw [he] at ho
  have hiC : i < C.size := by omega
  refine ⟨⟨C[i], by simp [World.cell?, ho, hiC]⟩, by
    obtain ⟨lo, hi'⟩ := fr
    simp only [World.frozen?, ho]
    rcases hfr with e | e
    · cases e; simp
    · rw [Bool.and_eq_false_iff]; left; rw [decide_eq_false_iff_not]; simp only at e; omega, ?_⟩
  rw [setCell_over w ho]
  refine h.over hk rfl rfl hm ⟨C.setIfInBounds i v', fr, e, rfl, by simpa using q1, fun _ => ⟨rfl, hfr⟩, fun hx => by simpa using q3 hx, by simpa using q4, ?_⟩
  intro j u hu
  rw [List.getElem?_set] at hu
  rw [Array.getElem?_setIfInBounds]
  by_cases e : i = j
  · subst e
    simp [hi] at hu
    subst hu
    exact ⟨v', by simp [hiC], hv⟩
  · rw [if_neg e] at hu ⊢
    exact hc j u hu
end AM
end Go.Proofs.YtoicnghjjgkebaaGreatDoor
namespace Go.Proofs.YtoicnghjjgkebaaGreatDoor
namespace AM
open Go.RowKit
variable [Toks]

/-- What is known of a program. -/
structure Env where
  info : Nat → Option TypeInfo
  und : Nat → Option TypeDesc
  fn : Nat → Option Func
  globs : Nat
  ext : Nat → Option (Array Value → Sem Value) := fun _ => none
  idf : Nat → Bool := fun _ => false
  teqI : Nat → IntKind → Int → Option Bool := fun _ _ _ => none
  teqS : Nat → ByteArray → Option Bool := fun _ _ => none
  teqB : Nat → Bool → Option Bool := fun _ _ => none
  tbin : BinOp → Nat → Value → Option Value := fun _ _ _ => none
  tcv : Nat → Nat → Nat → Option Nat := fun _ _ _ => none
  tln : Nat → Option Nat := fun _ => none
structure Env.Ok (E : Env) (P : Program) : Prop where
  info : ∀ t i, E.info t = some i → P.info? t = some i
  und : ∀ t d, E.und t = some d → P.underlying t = some d
  fn : ∀ f n, E.fn f = some n → P.funcs[f]? = some n ∧ (n.name == "runtime.NumGoroutine") = false
  ext : ∀ f e, E.ext f = some e → ∀ args w, (callFunc f args).run P w = (do pure (.value (← e args)) : Sem Next).run P w
  idf : ∀ f, E.idf f = true → ∀ v w, (callFunc f #[v]).run P w = .ok (.value v) w
  teqI : ∀ k q n b, E.teqI k q n = some b → Toks.kd k = q ∧ (Toks.i k == n) = b
  teqS : ∀ k s b, E.teqS k s = some b → (Toks.s k == s) = b
  teqB : ∀ k c b, E.teqB k c = some b → (Toks.b k == c) = b
  tbin : ∀ op k u r, E.tbin op k u = some r → ∀ t w, (binOp op t (.int (Toks.kd k) (Toks.i k)) u).run P w = .ok r w
  tcv : ∀ src dst k j, E.tcv src dst k = some j → ∀ w, (convert src dst (.int (Toks.kd k) (Toks.i k))).run P w = .ok (.int (Toks.kd j) (Toks.i j)) w
  tln : ∀ k j, E.tln k = some j → Toks.kd j = .i64 ∧ Toks.i j = (Toks.s k).size

theorem Rel.congr {μ : Mp} {H K : AH} {w0 : Base} {w : World} (h : Rel μ H w0 w) (he : ∀ j, K.t.get j = H.t.get j) (hn : K.next = H.next) : Rel μ K w0 w :=
  ⟨h.os, h.tape, h.output, h.size, h.keep, by rw [hn]; exact h.small, by rw [hn]; exact h.num, fun k b hk => h.lies k b (by rw [← he]; exact hk), fun k j b c hk hj => h.apart k j b c (by rw [← he]; exact hk) (by rw [← he]; exact hj), fun k b hk => h.ro k b (by rw [← he]; exact hk)⟩
theorem VR.oneCell {μ : Mp} {v v' : Value} (h : VR μ v v') : v'.oneCell' = v.oneCell' := by cases h <;> rfl
theorem VR.cells {μ : Mp} {v v' : Value} (h : VR μ v v') : LR μ v.cells.toList v'.cells.toList := by
  have h0 := h
  cases h with
  | agg h1 h2 => exact AR.toList ⟨h1, h2⟩
  | _ => exact LR.cons h0 (.nil _)

/-- Values without blocks. -/
def cval : Nat → Value → Bool
  | 0, _ => false
  | n + 1, v => match v with
    | .bool _ | .int _ _ | .string _ | .pointer none | .slice none _ _ | .map none | .nilFunc | .nilIface => true
    | .iface _ v => cval n v
    | .func (.func _) a c => a.toList.isEmpty && c.toList.isEmpty
    | .agg cs => cs.toList.all (cval n)
    | .tuple cs => cs.toList.all (cval n)
    | _ => false
theorem cval_row (μ : Mp) {n : Nat} (ih : ∀ v, cval n v = true → VR μ v v) {cs : Array Value} (h : cs.toList.all (cval n) = true) (i : Nat) (v v' : Value) (h1 : cs[i]? = some v) (h2 : cs[i]? = some v') : VR μ v v' := by
  rw [h1] at h2
  cases h2
  refine ih v (List.all_eq_true.1 h v ?_)
  obtain ⟨hi, rfl⟩ := Array.getElem?_eq_some_iff.1 h1
  exact Array.getElem_mem_toList hi
theorem cval_ok (μ : Mp) : ∀ (n : Nat) (v : Value), cval n v = true → VR μ v v
  | 0, v, h => by simp [cval] at h
  | n + 1, v, h => by
    have ih := cval_ok μ n
    cases v with
    | bool b => exact .bool b
    | int k m => exact .int k m
    | string s => exact .string s
    | pointer a => cases a with
      | none => exact .pnil
      | some a => simp [cval] at h
    | slice a m c => cases a with
      | none => exact .snil m c
      | some a => simp [cval] at h
    | map r => cases r with
      | none => exact .mnil
      | some a => simp [cval] at h
    | nilFunc => exact .nilFunc
    | nilIface => exact .nilIface
    | iface t v => exact .iface t (ih v (by simpa [cval] using h))
    | func fn a c =>
      cases fn with
      | func f =>
        simp only [cval, Bool.and_eq_true, List.isEmpty_iff, Array.toList_eq_nil_iff] at h
        obtain ⟨rfl, rfl⟩ := h
        exact .func f rfl (by simp) rfl (by simp)
      | _ => simp [cval] at h
    | agg cs => exact .agg rfl (cval_row μ ih (by simpa only [cval] using h))
    | tuple cs => exact .tuple rfl (cval_row μ ih (by simpa only [cval] using h))
    | _ => simp [cval] at h

/-- The cells of a range, written anew. -/
def setRange : List Value → Nat → List Value → List Value
  | c, _, [] => c
  | c, o, v :: vs => setRange (c.set o v) (o + 1) vs
theorem length_setRange : ∀ (vs c : List Value) (o : Nat), (setRange c o vs).length = c.length
  | [], c, o => rfl
  | v :: vs, c, o => by rw [setRange, length_setRange vs]; simp
theorem addr_add (g o j : Nat) : (⟨g, o, none⟩ : Addr).add j = ⟨g, o + j, none⟩ := by unfold Addr.add; split <;> simp_all

section
variable {P : Program} {μ : Mp} {H : AH} {w0 : Base} {w : World}
/-- Cells are read. -/
theorem Rel.loads (h : Rel μ H w0 w) {k : Nat} {c : List Value} {e : TypeId} {x rw : Bool} (hk : H.t.get k = some (.cells c e x rw)) {g s : Nat} (hm : μ k = some (g, s)) :
    ∀ (n i o : Nat) (acc acc' : Array Value), o + i + n ≤ c.length → AR μ acc acc' →
      ∃ r, (loadCellsFrom ⟨g, o, none⟩ i n acc').run P w = .ok r w ∧ AR μ (acc ++ ((c.drop (o + i)).take n).toArray) r
  | 0, i, o, acc, acc', _, ha => ⟨acc', rfl, by simpa using ha⟩
  | n + 1, i, o, acc, acc', hl, ha => by
    have hi : o + i < c.length := by omega
    obtain ⟨v', hc, hv⟩ := h.cell hk hm (i := o + i) (List.getElem?_eq_getElem hi)
    have hp : AR μ (acc.push c[o + i]) (acc'.push v') := by
      have := (AR.toList ha).append (LR.cons hv (.nil μ))
      have := LR.toArray this
      have e1 : ∀ (a : Array Value) (u : Value), (a.toList ++ [u]).toArray = a.push u := fun a u => by apply Array.ext'; simp
      rw [e1, e1] at this
      exact this
    obtain ⟨r, hr, har⟩ := Rel.loads h hk hm n (i + 1) o _ _ (by omega) hp
    refine ⟨r, ?_, ?_⟩
    · simp only [loadCellsFrom, Sem.run_bind, run_load, addr_add, hc, Result.andThen_ok, hr]
    · have e1 : (c.drop (o + i)).take (n + 1) = c[o + i] :: (c.drop (o + (i + 1))).take n := by
        rw [List.drop_eq_getElem_cons hi, List.take_succ_cons]; rfl
      rw [e1]
      have e2 : acc ++ (c[o + i] :: (c.drop (o + (i + 1))).take n).toArray = acc.push c[o + i] ++ ((c.drop (o + (i + 1))).take n).toArray := by
        apply Array.ext'; simp
      rw [e2]; exact har
/-- Cells are written. -/
theorem Rel.stores {k : Nat} {e : TypeId} {x : Bool} {g s : Nat} (hm : μ k = some (g, s)) :
    ∀ (vs vs' : List Value) (H : AH) (c : List Value) (w : World) (i o : Nat), Rel μ H w0 w → H.t.get k = some (.cells c e x true) → LR μ vs vs' → vs.all (·.oneCell') = true → o + i + vs.length ≤ c.length →
      ∃ w', (storeCells ⟨g, o, none⟩ vs' i).run P w = .ok () w' ∧ Rel μ (H.put k (.cells (setRange c (o + i) vs) e x true)) w0 w'
  | [], vs', H, c, w, i, o, h, hk, hv, _, _ => by
    rw [hv.inv_nil]
    refine ⟨w, rfl, h.congr (fun j => ?_) rfl⟩
    rw [h.get_put (h.get_lt hk)]
    split
    · rename_i ej; rw [ej, hk]; rfl
    · rfl
  | v :: vs, vs', H, c, w, i, o, h, hk, hv, h1, hl => by
    obtain ⟨u, us, rfl, hu, hus⟩ := hv.inv
    simp only [List.all_cons, Bool.and_eq_true] at h1
    simp only [List.length_cons] at hl
    obtain ⟨⟨y, hy⟩, hz, hr⟩ := h.store hk hm (i := o + i) (by omega) hu
    have hlt := h.get_lt hk
    obtain ⟨w', hw, hr'⟩ := Rel.stores hm vs us _ (c.set (o + i) v) _ (i + 1) o hr (by rw [h.get_put hlt, if_pos rfl]) hus h1.2 (by simp; omega)
    refine ⟨w', ?_, hr'.congr (fun j => ?_) rfl⟩
    · have hst : (Go.store (⟨g, o + i, none⟩ : Addr) u).run P w = Result.ok () (w.setCell ⟨g, o + i, none⟩ u) := by
        rw [run_store P w _ u _ (by rw [hu.oneCell]; exact h1.1)]
        simp [hy, hz]
      simp only [storeCells, Sem.run_bind, addr_add, hst, Result.andThen_ok, hw]
    · rw [h.get_put hlt, hr.get_put (by simpa [AH.put] using hlt), h.get_put hlt]
      by_cases ej : j = k
      · simp only [ej, if_true, setRange]; rfl
      · simp only [if_neg ej]
end
end AM
end Go.Proofs.YtoicnghjjgkebaaGreatDoor
namespace Go.Proofs.YtoicnghjjgkebaaGreatDoor
namespace AM
open Go.RowKit
variable [Toks]

/-- A computation that asks nothing of memory. -/
def pureRun {α : Type} (P : Program) : Sem α → Option α
  | .pure a => some a
  | .program k => pureRun P (k P)
  | .mark _ k => pureRun P k
  | _ => none
theorem pureRun_ok {α : Type} {P : Program} {s : Sem α} {r : α} (h : pureRun P s = some r) (w : World) : s.run P w = .ok r w := by
  induction s with
  | pure a => simp only [pureRun] at h; cases h; rfl
  | program k ih => simp only [pureRun] at h; simp only [Sem.run]; exact ih P h
  | mark m k ih => simp only [pureRun] at h; simp only [Sem.run]; exact ih h
  | _ => simp [pureRun] at h
def isScalar : Value → Bool
  | .bool _ | .int _ _ | .string _ => true
  | _ => false
theorem VR.scalar {μ : Mp} {v v' : Value} (h : VR μ v v') (hs : isScalar v = true) : v' = v := by
  cases h <;> first | rfl | simp [isScalar] at hs
theorem VR.of_scalar (μ : Mp) {v : Value} (hs : isScalar v = true) : VR μ v v := by
  cases v <;> first | (simp [isScalar] at hs; done) | constructor

/-- Slots. -/
def TR (μ : Mp) (T : Nat → Option Value) (a : Array Value) : Prop := ∀ t v, T t = some v → ∃ v', a[t]? = some v' ∧ VR μ v v'
theorem TR.mono {μ ν : Mp} (h : μ.le ν) {T : Nat → Option Value} {a : Array Value} (r : TR μ T a) : TR ν T a := fun t v e => let ⟨v', h1, h2⟩ := r t v e; ⟨v', h1, h2.mono h⟩
def aeval (T : Nat → Option Value) : Operand → Option Value
  | .tmp t => T t
  | .const v => bif cval 6 v then some v else none
  | .global g => bif Nat.blt g glob then some (.pointer (some ⟨g, 0, none⟩)) else none
  | .func f => some (.func (.func f) #[] #[])
theorem aeval_ok {μ : Mp} {T : Nat → Option Value} {a : Act} (h : TR μ T a.tmps) {x : Operand} {v : Value} (e : aeval T x = some v) : VR μ v (a.eval x) := by
  cases x with
  | tmp t =>
    obtain ⟨v', h1, h2⟩ := h t v e
    show VR μ v (a.tmps.getD t undef)
    rw [Array.getD_eq_getD_getElem?, h1]; exact h2
  | const c =>
    simp only [aeval] at e
    cases hc : cval 6 c with
    | false => rw [hc] at e; cases e
    | true => rw [hc] at e; cases e; exact cval_ok μ 6 v hc
  | global g =>
    simp only [aeval] at e
    cases hb : Nat.blt g glob with
    | false => rw [hb] at e; cases e
    | true =>
      rw [hb] at e; cases e
      obtain ⟨s, hs⟩ := μ.gl g (Nat.le_of_ble_eq_true hb)
      exact .ptr 0 hs
  | func f => cases e; exact .func f rfl (by simp) rfl (by simp)

/-- The model answers v, or something like it. -/
def GotV (P : Program) (s : Sem Value) (μ : Mp) (w0 : Base) (w : World) (v : Value) (H' : AH) : Prop :=
  ∃ ν v' w', s.run P w = .ok v' w' ∧ μ.le ν ∧ Rel ν H' w0 w' ∧ VR ν v v'
def Got (P : Program) (s : Sem Next) (μ : Mp) (w0 : Base) (w : World) (v : Value) (H' : AH) : Prop :=
  ∃ ν n v' w', s.run P w = .ok n w' ∧ (n = .value v' ∨ (n = .skip ∧ v' = undef)) ∧ μ.le ν ∧ Rel ν H' w0 w' ∧ VR ν v v'
theorem GotV.val {P : Program} {s : Sem Value} {μ : Mp} {w0 : Base} {w : World} {v : Value} {H' : AH} (h : GotV P s μ w0 w v H') : Got P (do pure (.value (← s))) μ w0 w v H' := by
  obtain ⟨ν, v', w', h1, h2, h3, h4⟩ := h
  exact ⟨ν, _, v', w', by simp [h1], .inl rfl, h2, h3, h4⟩
theorem GotV.pure {P : Program} {s : Sem Value} {μ : Mp} {H : AH} {w0 : Base} {w : World} {v v' : Value} (h : Rel μ H w0 w) (hr : s.run P w = .ok v' w) (hv : VR μ v v') : GotV P s μ w0 w v H := ⟨μ, v', w, hr, .refl μ, h, hv⟩
section
variable {P : Program} {E : Env} {μ : Mp} {H : AH} {w0 : Base} {w : World}
theorem run_und (hE : E.Ok P) {t : Nat} {d : TypeDesc} (h : E.und t = some d) (w : World) : (underlying t).run P w = .ok d w := run_underlying (hE.und _ _ h) w
theorem run_info (hE : E.Ok P) {t : Nat} {i : TypeInfo} (h : E.info t = some i) (w : World) : (typeInfo t).run P w = .ok i w := by
  simp only [typeInfo, Sem.run_bind, program, Sem.run, Result.andThen_ok, hE.info _ _ h]
  rfl
theorem run_size (hE : E.Ok P) {t : Nat} {i : TypeInfo} (h : E.info t = some i) (w : World) : (sizeOf t).run P w = .ok i.size w := by
  simp only [Go.sizeOf, Sem.run_bind, run_info hE h, Result.andThen_ok]
  rfl
theorem run_zero (hE : E.Ok P) {t : Nat} {i : TypeInfo} (h : E.info t = some i) {z : Value} (hz : i.zero = some z) (w : World) : (zeroValue t).run P w = .ok z w := by
  simp only [zeroValue, Sem.run_bind, run_info hE h, Result.andThen_ok, hz]
  rfl
def isAggB : TypeDesc → Bool
  | .struct _ | .array _ _ => true
  | _ => false
theorem run_isAgg (hE : E.Ok P) {t : Nat} {d : TypeDesc} (h : E.und t = some d) (w : World) : (isAgg t).run P w = .ok (isAggB d) w := by
  simp only [isAgg, Sem.run_bind, run_und hE h, Result.andThen_ok]
  cases d <;> rfl

/-- Cells that are read. -/
def aload (E : Env) (H : AH) (t : Nat) : Value → Option Value
  | .pointer (some ⟨k, o, none⟩) => match H.t.get k, E.und t, E.info t with
    | some (.cells c _ _ _), some d, some i => bif isAggB d then (bif Nat.ble (o + i.size) c.length then some (.agg ((c.drop o).take i.size).toArray) else none) else c[o]?
    | _, _, _ => none
  | _ => none
theorem aload_ok (hE : E.Ok P) (h : Rel μ H w0 w) {t : Nat} {x x' v : Value} (hx : VR μ x x') (e : aload E H t x = some v) : GotV P (Instr.loadAt t x') μ w0 w v H := by
  cases hx with
  | @ptr k g s o hm =>
    simp only [aload] at e
    cases hk : H.t.get k with
    | none => simp [hk] at e
    | some b =>
      cases b with
      | cells c el x rw =>
        cases hu : E.und t with
        | none => simp [hk, hu] at e
        | some d =>
          cases hi : E.info t with
          | none => simp [hk, hu, hi] at e
          | some i =>
            simp only [hk, hu, hi] at e
            cases ha : isAggB d with
            | true =>
              simp only [ha, cond_true] at e
              cases hb : Nat.ble (o + i.size) c.length with
              | false => simp [hb] at e
              | true =>
                simp only [hb, cond_true] at e
                cases e
                obtain ⟨r, hr, har⟩ := h.loads (P := P) hk hm i.size 0 o #[] #[] (by have := Nat.le_of_ble_eq_true hb; simpa using this) ⟨rfl, by simp⟩
                refine .pure h (v' := .agg r) ?_ ?_
                · simp only [Instr.loadAt, Instr.sureAddr, Sem.run_bind, Sem.run_pure, Result.andThen_ok, loadVar, run_isAgg hE hu, ha, if_true, run_size hE hi, loadCells, hr]
                · simp only [Nat.add_zero, Array.empty_append] at har
                  exact .agg har.1 har.2
            | false =>
              simp only [ha, cond_false] at e
              obtain ⟨v', hc, hv⟩ := h.cell hk hm e
              refine .pure h (v' := v') ?_ hv
              simp only [Instr.loadAt, Instr.sureAddr, Sem.run_bind, Sem.run_pure, Result.andThen_ok, loadVar, run_isAgg hE hu, ha, Bool.false_eq_true, if_false, run_load, hc]
      | _ => simp [hk] at e
  | _ => simp [aload] at e
/-- Cells that are written. -/
def astore (E : Env) (H : AH) (t : Nat) (v : Value) : Value → Option AH
  | .pointer (some ⟨k, o, none⟩) => match H.t.get k, E.info t with
    | some (.cells c el x true), some i => bif Nat.beq i.size v.cells.toList.length && Nat.ble (o + i.size) c.length && v.cells.toList.all (·.oneCell') then some (H.put k (.cells (setRange c o v.cells.toList) el x true)) else none
    | _, _ => none
  | _ => none
theorem astore_ok (hE : E.Ok P) (h : Rel μ H w0 w) {t : Nat} {x x' v v' : Value} {H' : AH} (hx : VR μ x x') (hv : VR μ v v') (e : astore E H t v x = some H') :
    ∃ w', (Instr.storeAt t x' v').run P w = .ok () w' ∧ Rel μ H' w0 w' := by
  cases hx with
  | @ptr k g s o hm =>
    simp only [astore] at e
    cases hk : H.t.get k with
    | none => simp [hk] at e
    | some b =>
      cases b with
      | cells c el x rw =>
        cases rw with
        | false => simp [hk] at e
        | true =>
          cases hi : E.info t with
          | none => simp [hk, hi] at e
          | some i =>
            simp only [hk, hi] at e
            cases hb : (Nat.beq i.size v.cells.toList.length && Nat.ble (o + i.size) c.length && v.cells.toList.all (·.oneCell')) with
            | false => rw [hb] at e; cases e
            | true =>
              rw [hb] at e
              simp only [cond_true, Option.some.injEq] at e
              subst e
              simp only [Bool.and_eq_true] at hb
              obtain ⟨⟨b1, b2⟩, b3⟩ := hb
              have b1 := Nat.eq_of_beq_eq_true b1
              have b2 := Nat.le_of_ble_eq_true b2
              have hl := hv.cells
              obtain ⟨w', hw, hr⟩ := Rel.stores (P := P) hm v.cells.toList v'.cells.toList H c w 0 o h hk hl b3 (by omega)
              refine ⟨w', ?_, by simpa using hr⟩
              have hs : v'.cells.size = i.size := by have := hl.1; simp at this b1; omega
              simp only [Instr.storeAt, Instr.sureAddr, Sem.run_bind, Sem.run_pure, Result.andThen_ok, storeVar, run_size hE hi, hs, ne_eq, not_true_eq_false, if_false, hw]
              first | done | rfl
      | _ => simp [hk] at e
  | _ => simp [astore] at e
/-- New cells. -/
def anew (H : AH) (t : Nat) (c : List Value) : Option (Value × AH) :=
  bif Nat.blt (H.next + 1) 1099511627776 then some (.pointer (some ⟨H.next, 0, none⟩), H.alloc (.cells c t true true)) else none
theorem anew_ok (h : Rel μ H w0 w) {t : Nat} {c : List Value} {v : Value} {H' : AH} {c' : Array Value} (hc : LR μ c c'.toList) (e : anew H t c = some (v, H')) : GotV P (do pure (.pointer (some (← newRow t c')))) μ w0 w v H' := by
  unfold anew at e
  cases hb : Nat.blt (H.next + 1) 1099511627776 with
  | false => rw [hb] at e; cases e
  | true =>
    rw [hb] at e
    cases e
    have hn : H.next + 1 < 2 ^ 40 := by have := Nat.le_of_ble_eq_true hb; simp at this; omega
    obtain ⟨ν, n1, n2, n3⟩ := h.alloc hn (b := .cells c t true true) (o := .cells c' t) (s := c'.size)
      ⟨c', (0, 0), t, rfl, rfl, fun _ => ⟨rfl, .inl rfl⟩, fun _ => by have := hc.1; simp at this; omega, by have := hc.1; simp at this; omega, fun i u hu => by
        have hi : i < c.length := by
          rcases Nat.lt_or_ge i c.length with k | k
          · exact k
          · rw [List.getElem?_eq_none k] at hu; cases hu
        have hi' : i < c'.size := by have := hc.1; simp at this; omega
        exact ⟨c'[i], Array.getElem?_eq_getElem hi', hc.2 i u _ hu (by simp [hi'])⟩⟩
    refine ⟨ν, .pointer (some ⟨w.heap.size, 0, none⟩), w.alloc (.cells c' t), ?_, n1, n3, .ptr 0 n2⟩
    simp only [newRow, newObj, Sem.run_bind, Sem.run, Result.andThen_ok]
    rfl
end
end AM
end Go.Proofs.YtoicnghjjgkebaaGreatDoor
