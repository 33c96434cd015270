/-
  An abstract machine: a trie; abstract values and the values they stand for. No condition.
  The abstract machine's memory, and what it stands for. No condition.
  The abstract machine: what it knows of types and functions; operands; cells read and written. No condition.
  The abstract machine's operations, first part: what it answers is what the model's operations answer. No condition.
  The abstract machine's operations, second part: addresses, parts, composites, slices. No condition.
  The abstract machine's operations, third part: composites are built; slices are made and cut. No condition.
  The abstract machine's operations, fourth part: slices are made and cut; maps are made; lengths. No condition.
  The abstract machine's operations, fifth part: slices are cut; values are held against each other; numbers. No condition.
  The abstract machine's operations, sixth part: values are held against each other; numbers and texts; lengths. No condition.
-/
import Derived.WalkKit
import Derived.WalkSpells
import Derived.Below
import Derived.Laws.Cells
import Derived.Laws.IdiomCopy
import Derived.Laws.Entries
import Derived.IntWalk
import Derived.Laws.StructEq
import Derived.ChangeKeysEq
set_option linter.unusedSectionVars false
namespace Go.Proofs.YtdmbppgogdkpdaaGreatDoor
namespace AM
open Go.RowKit

/-- A map from numbers. -/
inductive Tri (α : Type) where
  | nil
  | node (v : Option α) (l r : Tri α)
def Tri.get {α : Type} : Tri α → Nat → Option α
  | .nil, _ => none
  | .node v l r, k => bif Nat.beq k 0 then v else bif Nat.beq (k % 2) 1 then l.get (k / 2) else r.get (k / 2 - 1)
def Tri.set {α : Type} : Nat → Tri α → Nat → α → Tri α
  | 0, t, _, _ => t
  | f + 1, .nil, k, x => bif Nat.beq k 0 then .node (some x) .nil .nil else
      bif Nat.beq (k % 2) 1 then .node none (Tri.set f .nil (k / 2) x) .nil else .node none .nil (Tri.set f .nil (k / 2 - 1) x)
  | f + 1, .node v l r, k, x => bif Nat.beq k 0 then .node (some x) l r else
      bif Nat.beq (k % 2) 1 then .node v (Tri.set f l (k / 2) x) r else .node v l (Tri.set f r (k / 2 - 1) x)
theorem beq_ne {a b : Nat} (h : ¬ a = b) : Nat.beq a b = false := by
  cases e : Nat.beq a b
  · rfl
  · exact absurd (Nat.eq_of_beq_eq_true e) h
theorem Tri.get_node {α : Type} (v : Option α) (l r : Tri α) (k : Nat) : (Tri.node v l r).get k = if k = 0 then v else if k % 2 = 1 then l.get (k / 2) else r.get (k / 2 - 1) := by
  rw [Tri.get]
  by_cases h : k = 0
  · subst h; rfl
  · rw [beq_ne h, cond_false, if_neg h]
    by_cases h1 : k % 2 = 1
    · rw [h1, if_pos rfl]; rfl
    · rw [beq_ne h1, cond_false, if_neg h1]
theorem Tri.set_node {α : Type} (f : Nat) (v : Option α) (l r : Tri α) (k : Nat) (x : α) : Tri.set (f + 1) (.node v l r) k x =
    if k = 0 then .node (some x) l r else if k % 2 = 1 then .node v (Tri.set f l (k / 2) x) r else .node v l (Tri.set f r (k / 2 - 1) x) := by
  rw [Tri.set]
  by_cases h : k = 0
  · subst h; rfl
  · rw [beq_ne h, cond_false, if_neg h]
    by_cases h1 : k % 2 = 1
    · rw [h1, if_pos rfl]; rfl
    · rw [beq_ne h1, cond_false, if_neg h1]
theorem Tri.get_nil_node {α : Type} (j : Nat) : (Tri.node (none : Option α) .nil .nil).get j = none := by
  rw [Tri.get_node]; split
  · rfl
  · split <;> rfl
theorem Tri.set_nil {α : Type} (f k : Nat) (x : α) : Tri.set (f + 1) .nil k x = Tri.set (f + 1) (.node none .nil .nil) k x := by
  rw [Tri.set, Tri.set]
theorem Tri.get_set {α : Type} : ∀ (f : Nat) (t : Tri α) (k j : Nat) (x : α), k + 1 < 2 ^ f → (Tri.set f t k x).get j = if j = k then some x else t.get j
  | 0, t, k, j, x, h => by
    simp at h
  | f + 1, t, k, j, x, h => by
    have key : ∀ (v : Option α) (l r : Tri α), (Tri.set (f + 1) (.node v l r) k x).get j = if j = k then some x else (Tri.node v l r).get j := by
      intro v l r
      rw [Tri.set_node]
      by_cases hk : k = 0
      · subst hk
        rw [if_pos rfl, Tri.get_node, Tri.get_node]
        by_cases hj : j = 0 <;> simp [hj]
      · rw [if_neg hk]
        have hp : 2 ^ (f + 1) = 2 ^ f * 2 := Nat.pow_succ 2 f
        by_cases hk1 : k % 2 = 1
        · rw [if_pos hk1, Tri.get_node, Tri.get_node, Tri.get_set f l (k / 2) (j / 2) x (by omega)]
          by_cases hj : j = 0
          · rw [if_pos hj, if_pos hj, if_neg (by omega)]
          · rw [if_neg hj, if_neg hj]
            by_cases hj1 : j % 2 = 1
            · rw [if_pos hj1, if_pos hj1]
              by_cases he : j = k
              · rw [if_pos he, if_pos (by rw [he])]
              · rw [if_neg he, if_neg (by omega)]
            · rw [if_neg hj1, if_neg hj1, if_neg (by rintro rfl; exact hj1 hk1)]
        · rw [if_neg hk1, Tri.get_node, Tri.get_node, Tri.get_set f r (k / 2 - 1) (j / 2 - 1) x (by omega)]
          by_cases hj : j = 0
          · rw [if_pos hj, if_pos hj, if_neg (by omega)]
          · rw [if_neg hj, if_neg hj]
            by_cases hj1 : j % 2 = 1
            · rw [if_pos hj1, if_pos hj1, if_neg (by rintro rfl; exact hk1 hj1)]
            · rw [if_neg hj1, if_neg hj1]
              by_cases he : j = k
              · rw [if_pos he, if_pos (by rw [he])]
              · rw [if_neg he, if_neg (by omega)]
    cases t with
    | node v l r => exact key v l r
    | nil =>
      rw [Tri.set_nil, key none .nil .nil, Tri.get_nil_node]
      rfl

/-- The numbers below stand for themselves: variables of packages. -/
def glob : Nat := 16
/-- Where an abstract block lies, and how many cells lie there. -/
structure Mp where
  f : Nat → Option (Nat × Nat)
  N : Nat
  wf : ∀ k, N ≤ k → f k = none
  gl : ∀ k, k < glob → ∃ s, f k = some (k, s)
theorem Mp.glob_lt (μ : Mp) {k : Nat} (h : μ.f k = none) : ¬ k < glob := fun hk => by
  obtain ⟨s, e⟩ := μ.gl k hk
  rw [h] at e; cases e
instance : CoeFun Mp (fun _ => Nat → Option (Nat × Nat)) := ⟨Mp.f⟩
/-- A capacity e * big + c: of elements of e cells, of which no more is known than that it is at least c. -/
def big : Nat := 18446744073709551616
/-- Tokens: values of which no more is known than which they are. -/
class Toks where
  kd : Nat → IntKind
  i : Nat → Int
  s : Nat → ByteArray
  b : Nat → Bool
variable [Toks]
inductive VR (μ : Mp) : Value → Value → Prop where
  | bool (b : Bool) : VR μ (.bool b) (.bool b)
  | int (k : IntKind) (n : Int) : VR μ (.int k n) (.int k n)
  | string (s : ByteArray) : VR μ (.string s) (.string s)
  | pnil : VR μ (.pointer none) (.pointer none)
  | ptr {k g s : Nat} (o : Nat) : μ k = some (g, s) → VR μ (.pointer (some ⟨k, o, none⟩)) (.pointer (some ⟨g, o, none⟩))
  | snil (n c : Nat) : VR μ (.slice none n c) (.slice none n c)
  | sl {k g s : Nat} (o n c : Nat) : μ k = some (g, s) → c < big → VR μ (.slice (some ⟨k, o, none⟩) n c) (.slice (some ⟨g, o, none⟩) n c)
  | slx {k g s : Nat} (o n c c' e : Nat) : μ k = some (g, s) → o + c' * e = s → 0 < e → n ≤ c → c ≤ c' → c < big → VR μ (.slice (some ⟨k, o, none⟩) n (e * big + c)) (.slice (some ⟨g, o, none⟩) n c')
  | mnil : VR μ (.map none) (.map none)
  | map {k g s : Nat} : μ k = some (g, s) → VR μ (.map (some k)) (.map (some g))
  | nilFunc : VR μ .nilFunc .nilFunc
  | nilIface : VR μ .nilIface .nilIface
  | iface (t : TypeId) {v v' : Value} : VR μ v v' → VR μ (.iface t v) (.iface t v')
  | func (f : FuncId) {a a' c c' : Array Value} : a.size = a'.size → (∀ (i : Nat) (v v' : Value), a[i]? = some v → a'[i]? = some v' → VR μ v v') →
      c.size = c'.size → (∀ (i : Nat) (v v' : Value), c[i]? = some v → c'[i]? = some v' → VR μ v v') → VR μ (.func (.func f) a c) (.func (.func f) a' c')
  | yield {k g s : Nat} : μ k = some (g, s) → VR μ (.func (.yield k) #[] #[]) (.func (.yield g) #[] #[])
  | agg {c c' : Array Value} : c.size = c'.size → (∀ (i : Nat) (v v' : Value), c[i]? = some v → c'[i]? = some v' → VR μ v v') → VR μ (.agg c) (.agg c')
  | unkI (k : IntKind) (n : Int) : VR μ (.chan none) (.int k n)
  | unkS (s : ByteArray) : VR μ (.chan (some 0)) (.string s)
  | unkN (n : Int) : VR μ (.chan (some 1)) (.int .i64 n)
  | unkB (b : Bool) : VR μ (.chan (some 2)) (.bool b)
  | tokI (q : FloatKind) (k : Nat) : VR μ (.complex q 0 k) (.int (Toks.kd k) (Toks.i k))
  | tokS (q : FloatKind) (k : Nat) : VR μ (.complex q 1 k) (.string (Toks.s k))
  | tokB (q : FloatKind) (k : Nat) : VR μ (.complex q 2 k) (.bool (Toks.b k))
  | tuple {c c' : Array Value} : c.size = c'.size → (∀ (i : Nat) (v v' : Value), c[i]? = some v → c'[i]? = some v' → VR μ v v') → VR μ (.tuple c) (.tuple c')
/-- More is known. -/
def Mp.sub (μ ν : Mp) : Prop := ∀ k l, μ k = some l → ν k = some l
/-- More is known, of new blocks alone. -/
def Mp.le (μ ν : Mp) : Prop := μ.N ≤ ν.N ∧ ∀ k, k < μ.N → ν k = μ k
theorem Mp.le.sub {μ ν : Mp} (h : μ.le ν) : μ.sub ν := fun k l e => by
  rcases Nat.lt_or_ge k μ.N with hk | hk
  · rw [h.2 k hk]; exact e
  · rw [μ.wf k hk] at e; cases e
theorem Mp.le.refl (μ : Mp) : μ.le μ := ⟨Nat.le_refl _, fun _ _ => rfl⟩
theorem Mp.le.trans {μ ν ξ : Mp} (h : μ.le ν) (k : ν.le ξ) : μ.le ξ := ⟨Nat.le_trans h.1 k.1, fun j hj => (k.2 j (Nat.lt_of_lt_of_le hj h.1)).trans (h.2 j hj)⟩
theorem VR.monoS {μ ν : Mp} (h : μ.sub ν) {v v' : Value} (r : VR μ v v') : VR ν v v' := by
  induction r with
  | bool b => exact .bool b
  | int k n => exact .int k n
  | string s => exact .string s
  | pnil => exact .pnil
  | ptr o e => exact .ptr o (h _ _ e)
  | snil n c => exact .snil n c
  | sl o n c e hc => exact .sl o n c (h _ _ e) hc
  | slx o n c c' e he a b d f i => exact .slx o n c c' e (h _ _ he) a b d f i
  | mnil => exact .mnil
  | map e => exact .map (h _ _ e)
  | nilFunc => exact .nilFunc
  | nilIface => exact .nilIface
  | iface t _ ih => exact .iface t ih
  | func f ha _ hc _ ih1 ih2 => exact .func f ha ih1 hc ih2
  | yield e => exact .yield (h _ _ e)
  | agg ha _ ih => exact .agg ha ih
  | tuple ha _ ih => exact .tuple ha ih
  | unkI k n => exact .unkI k n
  | unkS s => exact .unkS s
  | unkN n => exact .unkN n
  | unkB b => exact .unkB b
  | tokI q k => exact .tokI q k
  | tokS q k => exact .tokS q k
  | tokB q k => exact .tokB q k
theorem VR.mono {μ ν : Mp} (h : μ.le ν) {v v' : Value} (r : VR μ v v') : VR ν v v' := r.monoS h.sub
/-- Rows of values. -/
def AR (μ : Mp) (a a' : Array Value) : Prop := a.size = a'.size ∧ ∀ (i : Nat) (v v' : Value), a[i]? = some v → a'[i]? = some v' → VR μ v v'
theorem AR.get {μ : Mp} {a a' : Array Value} (r : AR μ a a') {i : Nat} {v : Value} (h : a[i]? = some v) : ∃ v', a'[i]? = some v' ∧ VR μ v v' := by
  obtain ⟨hi, _⟩ := Array.getElem?_eq_some_iff.1 h
  have hi' : i < a'.size := by rw [← r.1]; exact hi
  exact ⟨a'[i], Array.getElem?_eq_getElem hi', r.2 i _ _ h (Array.getElem?_eq_getElem hi')⟩
/-- Lists of values. -/
def LR (μ : Mp) (l l' : List Value) : Prop := l.length = l'.length ∧ ∀ (i : Nat) (v v' : Value), l[i]? = some v → l'[i]? = some v' → VR μ v v'
theorem LR.mono {μ ν : Mp} (h : μ.le ν) {a a' : List Value} (r : LR μ a a') : LR ν a a' := ⟨r.1, fun i v v' h1 h2 => (r.2 i v v' h1 h2).mono h⟩
theorem LR.nil (μ : Mp) : LR μ [] [] := ⟨rfl, by simp⟩
theorem LR.cons {μ : Mp} {v v' : Value} {l l' : List Value} (h : VR μ v v') (r : LR μ l l') : LR μ (v :: l) (v' :: l') := by
  refine ⟨by simp [r.1], fun i x x' h1 h2 => ?_⟩
  cases i with
  | zero => simp at h1 h2; subst h1; subst h2; exact h
  | succ i => simp at h1 h2; exact r.2 i x x' h1 h2
theorem LR.inv {μ : Mp} {v : Value} {l m : List Value} (r : LR μ (v :: l) m) : ∃ v' l', m = v' :: l' ∧ VR μ v v' ∧ LR μ l l' := by
  cases m with
  | nil => have := r.1; simp at this
  | cons v' l' =>
    refine ⟨v', l', rfl, r.2 0 v v' rfl rfl, by have := r.1; simpa using this, fun i x x' h1 h2 => r.2 (i + 1) x x' (by simpa using h1) (by simpa using h2)⟩
theorem LR.inv_nil {μ : Mp} {m : List Value} (r : LR μ [] m) : m = [] := by
  have := r.1; simp at this; exact List.eq_nil_of_length_eq_zero this.symm
theorem LR.append {μ : Mp} {l l' m m' : List Value} (r : LR μ l l') (s : LR μ m m') : LR μ (l ++ m) (l' ++ m') := by
  induction l generalizing l' with
  | nil => rw [r.inv_nil]; exact s
  | cons v l ih =>
    obtain ⟨v', k, rfl, hv, hk⟩ := r.inv
    exact .cons hv (ih hk)
theorem AR.toList {μ : Mp} {a a' : Array Value} (r : AR μ a a') : LR μ a.toList a'.toList := ⟨by simpa using r.1, fun i v v' h1 h2 => r.2 i v v' (by simpa using h1) (by simpa using h2)⟩
theorem LR.toArray {μ : Mp} {a a' : List Value} (r : LR μ a a') : AR μ a.toArray a'.toArray := ⟨by simpa using r.1, fun i v v' h1 h2 => r.2 i v v' (by simpa using h1) (by simpa using h2)⟩
end AM
end Go.Proofs.YtdmbppgogdkpdaaGreatDoor
namespace Go.Proofs.YtdmbppgogdkpdaaGreatDoor
namespace AM
open Go.RowKit
variable [Toks]

/-- A block: cells (are they all that lie there? may they be written?), a map's entries (key, value, stamp), an iterator over a string, or one that nobody may look at any more. -/
inductive Blk where
  | cells (c : List Value) (elem : TypeId) (exact rw : Bool)
  | map (es : List (Value × Value × Nat)) (clock : Nat)
  | rmap (es : List (Value × Value × Nat)) (clock : Nat)
  | miter (m : Option Nat) (since : Nat) (seen : List Nat) (stepped : Nat)
  | siter (s : ByteArray) (pos : Nat)
  | loop (st : LoopState) (pend : Option Code) (T : Tri Value) (n : Nat) (ps : Array Tmp) (assign body : Code) (d : Nat)
  | dfr
  | dead
def Blk.own : Blk → Bool
  | .cells _ _ _ rw => rw
  | .dead | .rmap _ _ => false
  | _ => true
def Blk.live : Blk → Bool
  | .dead => false
  | _ => true
theorem Blk.live_own {b : Blk} (h : b.own = true) : b.live = true := by cases b <;> simp_all [Blk.own, Blk.live]
/-- The memory. -/
structure AH where
  t : Tri Blk
  next : Nat
def AH.alloc (H : AH) (b : Blk) : AH := ⟨H.t.set 40 H.next b, H.next + 1⟩
def AH.put (H : AH) (k : Nat) (b : Blk) : AH := ⟨H.t.set 40 k b, H.next⟩

def BlkR (μ : Mp) (s : Nat) : Blk → Obj → Prop
  | .cells c e x rw, o => ∃ C fr e', o = .cells C e' fr ∧ C.size = s ∧ (rw = true → e' = e ∧ (fr = (0, 0) ∨ s ≤ fr.1)) ∧ (x = true → s = c.length) ∧ c.length ≤ s ∧
      ∀ (i : Nat) (v : Value), c[i]? = some v → ∃ v', C[i]? = some v' ∧ VR μ v v'
  | .map es n, o => ∃ E, o = .map E n ∧ E.size = es.length ∧ ∀ (i : Nat) (e : Value × Value × Nat) (e' : MapEntry), es[i]? = some e → E[i]? = some e' → VR μ e.1 e'.key ∧ VR μ e.2.1 e'.val ∧ e'.born = e.2.2
  | .rmap es n, o => ∃ E, o = .map E n ∧ E.size = es.length ∧ ∀ (i : Nat) (e : Value × Value × Nat) (e' : MapEntry), es[i]? = some e → E[i]? = some e' → VR μ e.1 e'.key ∧ VR μ e.2.1 e'.val ∧ e'.born = e.2.2
  | .miter none since seen st, o => o = .mapIter none since seen.toArray st
  | .miter (some m) since seen st, o => ∃ g z, μ m = some (g, z) ∧ o = .mapIter (some g) since seen.toArray st
  | .siter t p, o => o = .stringIter t p
  | .loop st pend T n ps as bd d, o => ∃ fn tmps d', o = .loop { state := st, pending := pend, fn := fn, tmps := tmps, params := ps, assign := as, body := bd, defers := d' } ∧ tmps.size = n ∧
      (∀ (t : Nat) (v : Value), T.get t = some v → ∃ v', tmps[t]? = some v' ∧ VR μ v v') ∧ ∃ z, μ d = some (d', z)
  | .dfr, o => o = .deferred (some [])
  | .dead, _ => True
theorem BlkR.monoS {μ ν : Mp} (h : μ.sub ν) {s : Nat} {b : Blk} {o : Obj} (r : BlkR μ s b o) : BlkR ν s b o := by
  cases b with
  | cells c e x rw =>
    obtain ⟨C, fr, e', a1, a2, a3, a4, a5, a6⟩ := r
    exact ⟨C, fr, e', a1, a2, a3, a4, a5, fun i v hv => let ⟨v', k1, k2⟩ := a6 i v hv; ⟨v', k1, k2.monoS h⟩⟩
  | map es n =>
    obtain ⟨E, a1, a2, a3⟩ := r
    exact ⟨E, a1, a2, fun i e e' h1 h2 => let ⟨k1, k2, k3⟩ := a3 i e e' h1 h2; ⟨k1.monoS h, k2.monoS h, k3⟩⟩
  | rmap es n =>
    obtain ⟨E, a1, a2, a3⟩ := r
    exact ⟨E, a1, a2, fun i e e' h1 h2 => let ⟨k1, k2, k3⟩ := a3 i e e' h1 h2; ⟨k1.monoS h, k2.monoS h, k3⟩⟩
  | miter m since seen st =>
    cases m with
    | none => exact r
    | some m =>
      obtain ⟨g, z, a1, a2⟩ := r
      exact ⟨g, z, h _ _ a1, a2⟩
  | siter t p => exact r
  | loop st pend T n ps as bd d =>
    obtain ⟨fn, tmps, d', a1, a2, a3, z, a4⟩ := r
    exact ⟨fn, tmps, d', a1, a2, fun t v hv => let ⟨v', k1, k2⟩ := a3 t v hv; ⟨v', k1, k2.monoS h⟩, z, h _ _ a4⟩
  | dfr => exact r
  | dead => trivial

theorem BlkR.mono {μ ν : Mp} (h : μ.le ν) {s : Nat} {b : Blk} {o : Obj} (r : BlkR μ s b o) : BlkR ν s b o := r.monoS h.sub
/-- A world, and blocks of it that stay as they are. -/
structure Base where
  w : World
  B : Nat → Prop
  L : Nat → Prop
  bound : ∀ g, B g → g < w.heap.size
  lbound : ∀ g, L g → g < w.heap.size
structure Rel (μ : Mp) (H : AH) (w0 : Base) (w : World) : Prop where
  os : w.os = w0.w.os
  tape : w.tape = w0.w.tape
  output : w.output = w0.w.output
  size : w0.w.heap.size ≤ w.heap.size
  keep : ∀ g, w0.B g → w.heap[g]? = w0.w.heap[g]?
  small : H.next < 2 ^ 40
  num : μ.N = H.next
  lies : ∀ k b, H.t.get k = some b → ∃ g s, μ k = some (g, s) ∧ (b.live = true → ∃ o, w.heap[g]? = some o ∧ BlkR μ s b o) ∧ (b.own = true → ¬ w0.B g)
  apart : ∀ k j b c, H.t.get k = some b → H.t.get j = some c → k ≠ j → b.own = true → c.live = true → ∀ g s g' s', μ k = some (g, s) → μ j = some (g', s') → g ≠ g'
  ro : ∀ k b, H.t.get k = some b → b.live = true → b.own = false → ∀ g s, μ k = some (g, s) → w0.L g

theorem Rel.room {μ : Mp} {H : AH} {w0 : Base} {w : World} (h : Rel μ H w0 w) (k : Nat) (l : Nat × Nat) (e : μ k = some l) : k < H.next := by
  rw [← h.num]
  rcases Nat.lt_or_ge k μ.N with hk | hk
  · exact hk
  · rw [μ.wf k hk] at e; cases e
theorem Rel.get_lt {μ : Mp} {H : AH} {w0 : Base} {w : World} (h : Rel μ H w0 w) {k : Nat} {b : Blk} (hk : H.t.get k = some b) : k < H.next := by
  obtain ⟨g, s, e, _⟩ := h.lies k b hk
  exact h.room k _ e
theorem Rel.get_put {μ : Mp} {H : AH} {w0 : Base} {w : World} (h : Rel μ H w0 w) {k : Nat} (hk : k < H.next) (b : Blk) (j : Nat) : (H.put k b).t.get j = if j = k then some b else H.t.get j :=
  Tri.get_set 40 H.t k j b (by have := h.small; omega)
theorem get_alloc {H : AH} (hn : H.next + 1 < 2 ^ 40) (b : Blk) (j : Nat) : (H.alloc b).t.get j = if j = H.next then some b else H.t.get j :=
  Tri.get_set 40 H.t H.next j b hn

/-- A new block. -/
theorem Rel.alloc {μ : Mp} {H : AH} {w0 : Base} {w : World} (h : Rel μ H w0 w) (hn : H.next + 1 < 2 ^ 40) {b : Blk} {o : Obj} {s : Nat} (hb : BlkR μ s b o) (hbo : b.own = true := by rfl) :
    ∃ ν : Mp, μ.le ν ∧ ν H.next = some (w.heap.size, s) ∧ Rel ν (H.alloc b) w0 (w.alloc o) := by
  let ν : Mp := ⟨fun k => if k = H.next then some (w.heap.size, s) else μ k, H.next + 1, fun k hk => by
    show (if k = H.next then _ else _) = _
    rw [if_neg (by omega)]; exact μ.wf k (by rw [h.num]; omega), fun k hk => by
    show ∃ s', (if k = H.next then _ else _) = _
    rw [if_neg (fun e => μ.glob_lt (μ.wf k (by rw [h.num, e]; exact Nat.le_refl _)) hk)]; exact μ.gl k hk⟩
  have hνd : ∀ k, ν k = if k = H.next then some (w.heap.size, s) else μ k := fun _ => rfl
  have hle : μ.le ν := ⟨by show μ.N ≤ H.next + 1; rw [h.num]; omega, fun k hk => by
    rw [hνd, if_neg (by rw [h.num] at hk; omega)]⟩
  have hlow : ∀ k b, H.t.get k = some b → b.live = true → ∀ g s, μ k = some (g, s) → g < w.heap.size := by
    intro k b hk hl g s e
    obtain ⟨g', s', e', l1, _⟩ := h.lies k b hk
    rw [e] at e'; cases e'
    obtain ⟨o', ho, _⟩ := l1 hl
    exact (Array.getElem?_eq_some_iff.1 ho).1
  refine ⟨ν, hle, by rw [hνd, if_pos rfl], ?_⟩
  refine ⟨h.os, h.tape, h.output, Nat.le_trans h.size (by simp), fun g hg => ?_, by simpa [AH.alloc] using hn, rfl, ?_, ?_, ?_⟩
  · rw [Below.heap_alloc _ _ _ (Nat.lt_of_lt_of_le (w0.bound g hg) h.size)]; exact h.keep g hg
  · intro k c hk
    rw [get_alloc hn] at hk
    by_cases e : k = H.next
    · rw [if_pos e] at hk
      cases hk
      refine ⟨w.heap.size, s, by rw [hνd, if_pos e], fun _ => ⟨o, Array.getElem?_push_size, hb.mono hle⟩, fun _ hB => by have := w0.bound _ hB; have := h.size; omega⟩
    · rw [if_neg e] at hk
      obtain ⟨g, s', e1, l1, l2⟩ := h.lies k c hk
      refine ⟨g, s', by rw [hνd, if_neg e]; exact e1, fun hl => ?_, l2⟩
      obtain ⟨o', ho, hr⟩ := l1 hl
      have hlt := hlow k c hk hl g s' e1
      refine ⟨o', ?_, hr.mono hle⟩
      rw [Below.heap_alloc _ _ _ hlt]; exact ho
  · intro k j b1 c1 hk hj hne hown hlive g s1 g' s1' ek ej
    rw [get_alloc hn] at hk hj
    rw [hνd] at ek ej
    by_cases e : k = H.next
    · rw [if_pos e] at hk ek
      rw [if_neg (by omega)] at hj ej
      cases ek
      have := hlow j c1 hj hlive g' s1' ej
      omega
    · rw [if_neg e] at hk ek
      by_cases e2 : j = H.next
      · rw [if_pos e2] at hj ej
        cases ej
        have := hlow k b1 hk (Blk.live_own hown) g s1 ek
        omega
      · rw [if_neg e2] at hj ej
        exact h.apart k j b1 c1 hk hj hne hown hlive g s1 g' s1' ek ej
  · intro k c hk hl ho g s1 ek
    rw [get_alloc hn] at hk
    rw [hνd] at ek
    by_cases e : k = H.next
    · rw [if_pos e] at hk; cases hk; rw [hbo] at ho; cases ho
    · rw [if_neg e] at hk ek; exact h.ro k c hk hl ho g s1 ek

/-- What lies in a cell. -/
theorem Rel.cell {μ : Mp} {H : AH} {w0 : Base} {w : World} (h : Rel μ H w0 w) {k : Nat} {c : List Value} {e : TypeId} {x rw : Bool} (hk : H.t.get k = some (.cells c e x rw)) {g s : Nat} (hm : μ k = some (g, s))
    {i : Nat} {v : Value} (hv : c[i]? = some v) : ∃ v', w.cell? ⟨g, i, none⟩ = some v' ∧ VR μ v v' := by
  obtain ⟨g', s', e1, l1, _⟩ := h.lies k _ hk
  rw [hm] at e1; cases e1
  obtain ⟨o, ho, C, fr, e', rfl, _, _, _, _, hc⟩ := l1 rfl
  obtain ⟨v', h1, h2⟩ := hc i v hv
  exact ⟨v', by simp [World.cell?, ho, h1], h2⟩
/-- A block's object is written anew. -/
def World.over (w : World) (g : Nat) (o : Obj) : World := { w with heap := w.heap.setIfInBounds g o }
theorem World.over_get (w : World) {g : Nat} (o : Obj) (hg : g < w.heap.size) (j : Nat) : (World.over w g o).heap[j]? = if j = g then some o else w.heap[j]? := by
  unfold World.over
  dsimp only
  rw [Array.getElem?_setIfInBounds]
  by_cases e : g = j
  · subst e; simp [hg]
  · rw [if_neg e, if_neg (fun h => e h.symm)]
theorem Rel.over {μ : Mp} {H : AH} {w0 : Base} {w : World} (h : Rel μ H w0 w) {k : Nat} {b b' : Blk} (hk : H.t.get k = some b) (hown : b.own = true) (hown' : b'.own = true) {g s : Nat} (hm : μ k = some (g, s)) {o : Obj} (ho : BlkR μ s b' o) :
    Rel μ (H.put k b') w0 (World.over w g o) := by
  have hlt := h.get_lt hk
  obtain ⟨g', s', e1, l1, l2⟩ := h.lies k b hk
  rw [hm] at e1; cases e1
  obtain ⟨o0, ho0, _⟩ := l1 (Blk.live_own hown)
  have hg : g < w.heap.size := (Array.getElem?_eq_some_iff.1 ho0).1
  have hg0 := l2 hown
  refine ⟨h.os, h.tape, h.output, by simpa [World.over] using h.size, fun j hj => ?_, h.small, h.num, ?_, ?_, ?_⟩
  · rw [World.over_get _ _ hg, if_neg (fun (e : j = g) => hg0 (by rw [← e]; exact hj))]; exact h.keep j hj
  · intro j c hj
    rw [h.get_put hlt] at hj
    by_cases e : j = k
    · rw [if_pos e] at hj; cases hj
      subst e
      exact ⟨g, s, hm, fun _ => ⟨o, by rw [World.over_get _ _ hg, if_pos rfl], ho⟩, fun _ => hg0⟩
    · rw [if_neg e] at hj
      obtain ⟨g1, s1, m1, k1, k2⟩ := h.lies j c hj
      refine ⟨g1, s1, m1, fun hl => ?_, k2⟩
      obtain ⟨o1, ho1, r1⟩ := k1 hl
      have := h.apart k j b c hk hj (fun e' => e e'.symm) hown hl g s g1 s1 hm m1
      exact ⟨o1, by rw [World.over_get _ _ hg, if_neg (fun e' => this e'.symm)]; exact ho1, r1⟩
  · intro i j b1 c1 hi hj hne ho1 hl1 g1 s1 g2 s2 m1 m2
    rw [h.get_put hlt] at hi hj
    by_cases e : i = k
    · rw [if_pos e] at hi; cases hi
      subst e
      rw [if_neg (fun e' => hne e'.symm)] at hj
      exact h.apart i j b c1 hk hj hne hown hl1 g1 s1 g2 s2 m1 m2
    · rw [if_neg e] at hi
      by_cases e2 : j = k
      · subst e2
        exact h.apart i j b1 b hi hk hne ho1 (Blk.live_own hown) g1 s1 g2 s2 m1 m2
      · rw [if_neg e2] at hj
        exact h.apart i j b1 c1 hi hj hne ho1 hl1 g1 s1 g2 s2 m1 m2
  · intro j c hj hl ho g1 s1 m1
    rw [h.get_put hlt] at hj
    by_cases e : j = k
    · rw [if_pos e] at hj; cases hj; rw [hown'] at ho; cases ho
    · rw [if_neg e] at hj; exact h.ro j c hj hl ho g1 s1 m1
/-- Nobody looks at a block any more. -/
theorem Rel.kill {μ : Mp} {H : AH} {w0 : Base} {w : World} (h : Rel μ H w0 w) {k : Nat} {b : Blk} (hk : H.t.get k = some b) : Rel μ (H.put k .dead) w0 w := by
  have hlt := h.get_lt hk
  refine ⟨h.os, h.tape, h.output, h.size, h.keep, h.small, h.num, ?_, ?_, ?_⟩
  · intro j c hj
    rw [h.get_put hlt] at hj
    by_cases e : j = k
    · rw [if_pos e] at hj; cases hj
      subst e
      obtain ⟨g, s, m, _⟩ := h.lies j b hk
      exact ⟨g, s, m, fun hl => by simp [Blk.live] at hl, fun hl => by simp [Blk.own] at hl⟩
    · rw [if_neg e] at hj; exact h.lies j c hj
  · intro i j b1 c1 hi hj hne ho1 hl1
    rw [h.get_put hlt] at hi hj
    by_cases e : i = k
    · rw [if_pos e] at hi; cases hi; simp [Blk.own] at ho1
    · rw [if_neg e] at hi
      by_cases e2 : j = k
      · rw [if_pos e2] at hj; cases hj; simp [Blk.live] at hl1
      · rw [if_neg e2] at hj; exact h.apart i j b1 c1 hi hj hne ho1 hl1
  · intro j c hj hl ho
    rw [h.get_put hlt] at hj
    by_cases e : j = k
    · rw [if_pos e] at hj; cases hj; simp [Blk.live] at hl
    · rw [if_neg e] at hj; exact h.ro j c hj hl ho
/-- A block of one's own that is changed in whichever way; nobody looks at it any more. -/
theorem Rel.bury {μ : Mp} {H : AH} {w0 : Base} {w : World} (h : Rel μ H w0 w) {k : Nat} {b : Blk} (hk : H.t.get k = some b) (hown : b.own = true) {g s : Nat} (hm : μ k = some (g, s)) (o : Obj) :
    Rel μ (H.put k .dead) w0 (World.over w g o) := by
  have hlt := h.get_lt hk
  obtain ⟨g', s', e1, l1, l2⟩ := h.lies k b hk
  rw [hm] at e1; cases e1
  obtain ⟨o0, ho0, _⟩ := l1 (Blk.live_own hown)
  have hg : g < w.heap.size := (Array.getElem?_eq_some_iff.1 ho0).1
  have hg0 := l2 hown
  refine ⟨h.os, h.tape, h.output, by simpa [World.over] using h.size, fun j hj => ?_, h.small, h.num, ?_, ?_, ?_⟩
  · rw [World.over_get _ _ hg, if_neg (fun (e : j = g) => hg0 (by rw [← e]; exact hj))]; exact h.keep j hj
  · intro j c hj
    rw [h.get_put hlt] at hj
    by_cases e : j = k
    · rw [if_pos e] at hj; cases hj
      subst e
      exact ⟨g, s, hm, fun hl => by simp [Blk.live] at hl, fun hl => by simp [Blk.own] at hl⟩
    · rw [if_neg e] at hj
      obtain ⟨g1, s1, m1, k1, k2⟩ := h.lies j c hj
      refine ⟨g1, s1, m1, fun hl => ?_, k2⟩
      obtain ⟨o1, ho1, r1⟩ := k1 hl
      have := h.apart k j b c hk hj (fun e' => e e'.symm) hown hl g s g1 s1 hm m1
      exact ⟨o1, by rw [World.over_get _ _ hg, if_neg (fun e' => this e'.symm)]; exact ho1, r1⟩
  · intro i j b1 c1 hi hj hne ho1 hl1
    rw [h.get_put hlt] at hi hj
    by_cases e : i = k
    · rw [if_pos e] at hi; cases hi; simp [Blk.own] at ho1
    · rw [if_neg e] at hi
      by_cases e2 : j = k
      · rw [if_pos e2] at hj; cases hj; simp [Blk.live] at hl1
      · rw [if_neg e2] at hj; exact h.apart i j b1 c1 hi hj hne ho1 hl1
  · intro j c hj hl ho
    rw [h.get_put hlt] at hj
    by_cases e : j = k
    · rw [if_pos e] at hj; cases hj; simp [Blk.live] at hl
    · rw [if_neg e] at hj; exact h.ro j c hj hl ho
theorem setCell_over (w : World) {g : Nat} {C : Array Value} {e : TypeId} {fr : Nat × Nat} (hg : w.heap[g]? = some (.cells C e fr)) (i : Nat) (v : Value) :
    w.setCell ⟨g, i, none⟩ v = World.over w g (.cells (C.setIfInBounds i v) e fr) := by
  unfold World.setCell World.over
  congr 1
  apply Array.ext_getElem?
  intro j
  rw [Array.getElem?_modify, Array.getElem?_setIfInBounds]
  have hlt : g < w.heap.size := (Array.getElem?_eq_some_iff.1 hg).1
  by_cases ej : g = j
  · subst ej
    have hg' : w.heap[g] = .cells C e fr := by rw [Array.getElem?_eq_getElem hlt] at hg; exact Option.some.inj hg
    simp [hlt, hg']
  · simp [ej]
/-- A cell is written. -/
theorem Rel.store {μ : Mp} {H : AH} {w0 : Base} {w : World} (h : Rel μ H w0 w) {k : Nat} {c : List Value} {e : TypeId} {x : Bool} (hk : H.t.get k = some (.cells c e x true)) {g s : Nat} (hm : μ k = some (g, s))
    {i : Nat} (hi : i < c.length) {v v' : Value} (hv : VR μ v v') :
    (∃ u, w.cell? ⟨g, i, none⟩ = some u) ∧ w.frozen? ⟨g, i, none⟩ = false ∧ Rel μ (H.put k (.cells (c.set i v) e x true)) w0 (w.setCell ⟨g, i, none⟩ v') := by
  obtain ⟨g', s', e1, l1, _⟩ := h.lies k _ hk
  rw [hm] at e1; cases e1
  obtain ⟨o, ho, C, fr, e', rfl, q1, q2, q3, q4, hc⟩ := l1 rfl
  obtain ⟨he, hfr⟩ := q2 rfl
  rw [he] at ho
  have hiC : i < C.size := by omega
  refine ⟨⟨C[i], by simp [World.cell?, ho, hiC]⟩, by
    obtain ⟨lo, hi'⟩ := fr
    simp only [World.frozen?, ho]
    rcases hfr with e | e
    · cases e; simp
    · rw [Bool.and_eq_false_iff]; left; rw [decide_eq_false_iff_not]; simp only at e; omega, ?_⟩
  rw [setCell_over w ho]
  refine h.over hk rfl rfl hm ⟨C.setIfInBounds i v', fr, e, rfl, by simpa using q1, fun _ => ⟨rfl, hfr⟩, fun hx => by simpa using q3 hx, by simpa using q4, ?_⟩
  intro j u hu
  rw [List.getElem?_set] at hu
  rw [Array.getElem?_setIfInBounds]
  by_cases e : i = j
  · subst e
    simp [hi] at hu
    subst hu
    exact ⟨v', by simp [hiC], hv⟩
  · rw [if_neg e] at hu ⊢
    exact hc j u hu
end AM
end Go.Proofs.YtdmbppgogdkpdaaGreatDoor
namespace Go.Proofs.YtdmbppgogdkpdaaGreatDoor
namespace AM
open Go.RowKit
variable [Toks]

/-- What is known of a program. -/
structure Env where
  info : Nat → Option TypeInfo
  und : Nat → Option TypeDesc
  fn : Nat → Option Func
  globs : Nat
  ext : Nat → Option (Array Value → Sem Value) := fun _ => none
  idf : Nat → Bool := fun _ => false
  teqI : Nat → IntKind → Int → Option Bool := fun _ _ _ => none
  teqS : Nat → ByteArray → Option Bool := fun _ _ => none
  teqB : Nat → Bool → Option Bool := fun _ _ => none
  tbin : BinOp → Nat → Value → Option Value := fun _ _ _ => none
  tcv : Nat → Nat → Nat → Option Nat := fun _ _ _ => none
  tln : Nat → Option Nat := fun _ => none
structure Env.Ok (E : Env) (P : Program) : Prop where
  info : ∀ t i, E.info t = some i → P.info? t = some i
  und : ∀ t d, E.und t = some d → P.underlying t = some d
  fn : ∀ f n, E.fn f = some n → P.funcs[f]? = some n ∧ (n.name == "runtime.NumGoroutine") = false
  ext : ∀ f e, E.ext f = some e → ∀ args w, (callFunc f args).run P w = (do pure (.value (← e args)) : Sem Next).run P w
  idf : ∀ f, E.idf f = true → ∀ v w, (callFunc f #[v]).run P w = .ok (.value v) w
  teqI : ∀ k q n b, E.teqI k q n = some b → Toks.kd k = q ∧ (Toks.i k == n) = b
  teqS : ∀ k s b, E.teqS k s = some b → (Toks.s k == s) = b
  teqB : ∀ k c b, E.teqB k c = some b → (Toks.b k == c) = b
  tbin : ∀ op k u r, E.tbin op k u = some r → ∀ t w, (binOp op t (.int (Toks.kd k) (Toks.i k)) u).run P w = .ok r w
  tcv : ∀ src dst k j, E.tcv src dst k = some j → ∀ w, (convert src dst (.int (Toks.kd k) (Toks.i k))).run P w = .ok (.int (Toks.kd j) (Toks.i j)) w
  tln : ∀ k j, E.tln k = some j → Toks.kd j = .i64 ∧ Toks.i j = (Toks.s k).size

theorem Rel.congr {μ : Mp} {H K : AH} {w0 : Base} {w : World} (h : Rel μ H w0 w) (he : ∀ j, K.t.get j = H.t.get j) (hn : K.next = H.next) : Rel μ K w0 w :=
  ⟨h.os, h.tape, h.output, h.size, h.keep, by rw [hn]; exact h.small, by rw [hn]; exact h.num, fun k b hk => h.lies k b (by rw [← he]; exact hk), fun k j b c hk hj => h.apart k j b c (by rw [← he]; exact hk) (by rw [← he]; exact hj), fun k b hk => h.ro k b (by rw [← he]; exact hk)⟩
theorem VR.oneCell {μ : Mp} {v v' : Value} (h : VR μ v v') : v'.oneCell' = v.oneCell' := by cases h <;> rfl
theorem VR.cells {μ : Mp} {v v' : Value} (h : VR μ v v') : LR μ v.cells.toList v'.cells.toList := by
  have h0 := h
  cases h with
  | agg h1 h2 => exact AR.toList ⟨h1, h2⟩
  | _ => exact LR.cons h0 (.nil _)

/-- Values without blocks. -/
def cval : Nat → Value → Bool
  | 0, _ => false
  | n + 1, v => match v with
    | .bool _ | .int _ _ | .string _ | .pointer none | .slice none _ _ | .map none | .nilFunc | .nilIface => true
    | .iface _ v => cval n v
    | .func (.func _) a c => a.toList.isEmpty && c.toList.isEmpty
    | .agg cs => cs.toList.all (cval n)
    | .tuple cs => cs.toList.all (cval n)
    | _ => false
theorem cval_row (μ : Mp) {n : Nat} (ih : ∀ v, cval n v = true → VR μ v v) {cs : Array Value} (h : cs.toList.all (cval n) = true) (i : Nat) (v v' : Value) (h1 : cs[i]? = some v) (h2 : cs[i]? = some v') : VR μ v v' := by
  rw [h1] at h2
  cases h2
  refine ih v (List.all_eq_true.1 h v ?_)
  obtain ⟨hi, rfl⟩ := Array.getElem?_eq_some_iff.1 h1
  exact Array.getElem_mem_toList hi
theorem cval_ok (μ : Mp) : ∀ (n : Nat) (v : Value), cval n v = true → VR μ v v
  | 0, v, h => by simp [cval] at h
  | n + 1, v, h => by
    have ih := cval_ok μ n
    cases v with
    | bool b => exact .bool b
    | int k m => exact .int k m
    | string s => exact .string s
    | pointer a => cases a with
      | none => exact .pnil
      | some a => simp [cval] at h
    | slice a m c => cases a with
      | none => exact .snil m c
      | some a => simp [cval] at h
    | map r => cases r with
      | none => exact .mnil
      | some a => simp [cval] at h
    | nilFunc => exact .nilFunc
    | nilIface => exact .nilIface
    | iface t v => exact .iface t (ih v (by simpa [cval] using h))
    | func fn a c =>
      cases fn with
      | func f =>
        simp only [cval, Bool.and_eq_true, List.isEmpty_iff, Array.toList_eq_nil_iff] at h
        obtain ⟨rfl, rfl⟩ := h
        exact .func f rfl (by simp) rfl (by simp)
      | _ => simp [cval] at h
    | agg cs => exact .agg rfl (cval_row μ ih (by simpa only [cval] using h))
    | tuple cs => exact .tuple rfl (cval_row μ ih (by simpa only [cval] using h))
    | _ => simp [cval] at h

/-- The cells of a range, written anew. -/
def setRange : List Value → Nat → List Value → List Value
  | c, _, [] => c
  | c, o, v :: vs => setRange (c.set o v) (o + 1) vs
theorem length_setRange : ∀ (vs c : List Value) (o : Nat), (setRange c o vs).length = c.length
  | [], c, o => rfl
  | v :: vs, c, o => by rw [setRange, length_setRange vs]; simp
theorem addr_add (g o j : Nat) : (⟨g, o, none⟩ : Addr).add j = ⟨g, o + j, none⟩ := by unfold Addr.add; split <;> simp_all

section
variable {P : Program} {μ : Mp} {H : AH} {w0 : Base} {w : World}
/-- Cells are read. -/
theorem Rel.loads (h : Rel μ H w0 w) {k : Nat} {c : List Value} {e : TypeId} {x rw : Bool} (hk : H.t.get k = some (.cells c e x rw)) {g s : Nat} (hm : μ k = some (g, s)) :
    ∀ (n i o : Nat) (acc acc' : Array Value), o + i + n ≤ c.length → AR μ acc acc' →
      ∃ r, (loadCellsFrom ⟨g, o, none⟩ i n acc').run P w = .ok r w ∧ AR μ (acc ++ ((c.drop (o + i)).take n).toArray) r
  | 0, i, o, acc, acc', _, ha => ⟨acc', rfl, by simpa using ha⟩
  | n + 1, i, o, acc, acc', hl, ha => by
    have hi : o + i < c.length := by omega
    obtain ⟨v', hc, hv⟩ := h.cell hk hm (i := o + i) (List.getElem?_eq_getElem hi)
    have hp : AR μ (acc.push c[o + i]) (acc'.push v') := by
      have := (AR.toList ha).append (LR.cons hv (.nil μ))
      have := LR.toArray this
      have e1 : ∀ (a : Array Value) (u : Value), (a.toList ++ [u]).toArray = a.push u := fun a u => by apply Array.ext'; simp
      rw [e1, e1] at this
      exact this
    obtain ⟨r, hr, har⟩ := Rel.loads h hk hm n (i + 1) o _ _ (by omega) hp
    refine ⟨r, ?_, ?_⟩
    · simp only [loadCellsFrom, Sem.run_bind, run_load, addr_add, hc, Result.andThen_ok, hr]
    · have e1 : (c.drop (o + i)).take (n + 1) = c[o + i] :: (c.drop (o + (i + 1))).take n := by
        rw [List.drop_eq_getElem_cons hi, List.take_succ_cons]; rfl
      rw [e1]
      have e2 : acc ++ (c[o + i] :: (c.drop (o + (i + 1))).take n).toArray = acc.push c[o + i] ++ ((c.drop (o + (i + 1))).take n).toArray := by
        apply Array.ext'; simp
      rw [e2]; exact har
/-- Cells are written. -/
theorem Rel.stores {k : Nat} {e : TypeId} {x : Bool} {g s : Nat} (hm : μ k = some (g, s)) :
    ∀ (vs vs' : List Value) (H : AH) (c : List Value) (w : World) (i o : Nat), Rel μ H w0 w → H.t.get k = some (.cells c e x true) → LR μ vs vs' → vs.all (·.oneCell') = true → o + i + vs.length ≤ c.length →
      ∃ w', (storeCells ⟨g, o, none⟩ vs' i).run P w = .ok () w' ∧ Rel μ (H.put k (.cells (setRange c (o + i) vs) e x true)) w0 w'
  | [], vs', H, c, w, i, o, h, hk, hv, _, _ => by
    rw [hv.inv_nil]
    refine ⟨w, rfl, h.congr (fun j => ?_) rfl⟩
    rw [h.get_put (h.get_lt hk)]
    split
    · rename_i ej; rw [ej, hk]; rfl
    · rfl
  | v :: vs, vs', H, c, w, i, o, h, hk, hv, h1, hl => by
    obtain ⟨u, us, rfl, hu, hus⟩ := hv.inv
    simp only [List.all_cons, Bool.and_eq_true] at h1
    simp only [List.length_cons] at hl
    obtain ⟨⟨y, hy⟩, hz, hr⟩ := h.store hk hm (i := o + i) (by omega) hu
    have hlt := h.get_lt hk
    obtain ⟨w', hw, hr'⟩ := Rel.stores hm vs us _ (c.set (o + i) v) _ (i + 1) o hr (by rw [h.get_put hlt, if_pos rfl]) hus h1.2 (by simp; omega)
    refine ⟨w', ?_, hr'.congr (fun j => ?_) rfl⟩
    · have hst : (Go.store (⟨g, o + i, none⟩ : Addr) u).run P w = Result.ok () (w.setCell ⟨g, o + i, none⟩ u) := by
        rw [run_store P w _ u _ (by rw [hu.oneCell]; exact h1.1)]
        simp [hy, hz]
      simp only [storeCells, Sem.run_bind, addr_add, hst, Result.andThen_ok, hw]
    · rw [h.get_put hlt, hr.get_put (by simpa [AH.put] using hlt), h.get_put hlt]
      by_cases ej : j = k
      · simp only [ej, if_true, setRange]; rfl
      · simp only [if_neg ej]
end
end AM
end Go.Proofs.YtdmbppgogdkpdaaGreatDoor
namespace Go.Proofs.YtdmbppgogdkpdaaGreatDoor
namespace AM
open Go.RowKit
variable [Toks]

/-- A computation that asks nothing of memory. -/
def pureRun {α : Type} (P : Program) : Sem α → Option α
  | .pure a => some a
  | .program k => pureRun P (k P)
  | .mark _ k => pureRun P k
  | _ => none
theorem pureRun_ok {α : Type} {P : Program} {s : Sem α} {r : α} (h : pureRun P s = some r) (w : World) : s.run P w = .ok r w := by
  induction s with
  | pure a => simp only [pureRun] at h; cases h; rfl
  | program k ih => simp only [pureRun] at h; simp only [Sem.run]; exact ih P h
  | mark m k ih => simp only [pureRun] at h; simp only [Sem.run]; exact ih h
  | _ => simp [pureRun] at h
def isScalar : Value → Bool
  | .bool _ | .int _ _ | .string _ => true
  | _ => false
theorem VR.scalar {μ : Mp} {v v' : Value} (h : VR μ v v') (hs : isScalar v = true) : v' = v := by
  cases h <;> first | rfl | simp [isScalar] at hs
theorem VR.of_scalar (μ : Mp) {v : Value} (hs : isScalar v = true) : VR μ v v := by
  cases v <;> first | (simp [isScalar] at hs; done) | constructor

/-- Slots. -/
def TR (μ : Mp) (T : Nat → Option Value) (a : Array Value) : Prop := ∀ t v, T t = some v → ∃ v', a[t]? = some v' ∧ VR μ v v'
theorem TR.mono {μ ν : Mp} (h : μ.le ν) {T : Nat → Option Value} {a : Array Value} (r : TR μ T a) : TR ν T a := fun t v e => let ⟨v', h1, h2⟩ := r t v e; ⟨v', h1, h2.mono h⟩
def aeval (T : Nat → Option Value) : Operand → Option Value
  | .tmp t => T t
  | .const v => bif cval 6 v then some v else none
  | .global g => bif Nat.blt g glob then some (.pointer (some ⟨g, 0, none⟩)) else none
  | .func f => some (.func (.func f) #[] #[])
theorem aeval_ok {μ : Mp} {T : Nat → Option Value} {a : Act} (h : TR μ T a.tmps) {x : Operand} {v : Value} (e : aeval T x = some v) : VR μ v (a.eval x) := by
  cases x with
  | tmp t =>
    obtain ⟨v', h1, h2⟩ := h t v e
    show VR μ v (a.tmps.getD t undef)
    rw [Array.getD_eq_getD_getElem?, h1]; exact h2
  | const c =>
    simp only [aeval] at e
    cases hc : cval 6 c with
    | false => rw [hc] at e; cases e
    | true => rw [hc] at e; cases e; exact cval_ok μ 6 v hc
  | global g =>
    simp only [aeval] at e
    cases hb : Nat.blt g glob with
    | false => rw [hb] at e; cases e
    | true =>
      rw [hb] at e; cases e
      obtain ⟨s, hs⟩ := μ.gl g (Nat.le_of_ble_eq_true hb)
      exact .ptr 0 hs
  | func f => cases e; exact .func f rfl (by simp) rfl (by simp)

/-- The model answers v, or something like it. -/
def GotV (P : Program) (s : Sem Value) (μ : Mp) (w0 : Base) (w : World) (v : Value) (H' : AH) : Prop :=
  ∃ ν v' w', s.run P w = .ok v' w' ∧ μ.le ν ∧ Rel ν H' w0 w' ∧ VR ν v v'
def Got (P : Program) (s : Sem Next) (μ : Mp) (w0 : Base) (w : World) (v : Value) (H' : AH) : Prop :=
  ∃ ν n v' w', s.run P w = .ok n w' ∧ (n = .value v' ∨ (n = .skip ∧ v' = undef)) ∧ μ.le ν ∧ Rel ν H' w0 w' ∧ VR ν v v'
theorem GotV.val {P : Program} {s : Sem Value} {μ : Mp} {w0 : Base} {w : World} {v : Value} {H' : AH} (h : GotV P s μ w0 w v H') : Got P (do pure (.value (← s))) μ w0 w v H' := by
  obtain ⟨ν, v', w', h1, h2, h3, h4⟩ := h
  exact ⟨ν, _, v', w', by simp [h1], .inl rfl, h2, h3, h4⟩
theorem GotV.pure {P : Program} {s : Sem Value} {μ : Mp} {H : AH} {w0 : Base} {w : World} {v v' : Value} (h : Rel μ H w0 w) (hr : s.run P w = .ok v' w) (hv : VR μ v v') : GotV P s μ w0 w v H := ⟨μ, v', w, hr, .refl μ, h, hv⟩
section
variable {P : Program} {E : Env} {μ : Mp} {H : AH} {w0 : Base} {w : World}
theorem run_und (hE : E.Ok P) {t : Nat} {d : TypeDesc} (h : E.und t = some d) (w : World) : (underlying t).run P w = .ok d w := run_underlying (hE.und _ _ h) w
theorem run_info (hE : E.Ok P) {t : Nat} {i : TypeInfo} (h : E.info t = some i) (w : World) : (typeInfo t).run P w = .ok i w := by
  simp only [typeInfo, Sem.run_bind, program, Sem.run, Result.andThen_ok, hE.info _ _ h]
  rfl
theorem run_size (hE : E.Ok P) {t : Nat} {i : TypeInfo} (h : E.info t = some i) (w : World) : (sizeOf t).run P w = .ok i.size w := by
  simp only [Go.sizeOf, Sem.run_bind, run_info hE h, Result.andThen_ok]
  rfl
theorem run_zero (hE : E.Ok P) {t : Nat} {i : TypeInfo} (h : E.info t = some i) {z : Value} (hz : i.zero = some z) (w : World) : (zeroValue t).run P w = .ok z w := by
  simp only [zeroValue, Sem.run_bind, run_info hE h, Result.andThen_ok, hz]
  rfl
def isAggB : TypeDesc → Bool
  | .struct _ | .array _ _ => true
  | _ => false
theorem run_isAgg (hE : E.Ok P) {t : Nat} {d : TypeDesc} (h : E.und t = some d) (w : World) : (isAgg t).run P w = .ok (isAggB d) w := by
  simp only [isAgg, Sem.run_bind, run_und hE h, Result.andThen_ok]
  cases d <;> rfl

/-- Cells that are read. -/
def aload (E : Env) (H : AH) (t : Nat) : Value → Option Value
  | .pointer (some ⟨k, o, none⟩) => match H.t.get k, E.und t, E.info t with
    | some (.cells c _ _ _), some d, some i => bif isAggB d then (bif Nat.ble (o + i.size) c.length then some (.agg ((c.drop o).take i.size).toArray) else none) else c[o]?
    | _, _, _ => none
  | _ => none
theorem aload_ok (hE : E.Ok P) (h : Rel μ H w0 w) {t : Nat} {x x' v : Value} (hx : VR μ x x') (e : aload E H t x = some v) : GotV P (Instr.loadAt t x') μ w0 w v H := by
  cases hx with
  | @ptr k g s o hm =>
    simp only [aload] at e
    cases hk : H.t.get k with
    | none => simp [hk] at e
    | some b =>
      cases b with
      | cells c el x rw =>
        cases hu : E.und t with
        | none => simp [hk, hu] at e
        | some d =>
          cases hi : E.info t with
          | none => simp [hk, hu, hi] at e
          | some i =>
            simp only [hk, hu, hi] at e
            cases ha : isAggB d with
            | true =>
              simp only [ha, cond_true] at e
              cases hb : Nat.ble (o + i.size) c.length with
              | false => simp [hb] at e
              | true =>
                simp only [hb, cond_true] at e
                cases e
                obtain ⟨r, hr, har⟩ := h.loads (P := P) hk hm i.size 0 o #[] #[] (by have := Nat.le_of_ble_eq_true hb; simpa using this) ⟨rfl, by simp⟩
                refine .pure h (v' := .agg r) ?_ ?_
                · simp only [Instr.loadAt, Instr.sureAddr, Sem.run_bind, Sem.run_pure, Result.andThen_ok, loadVar, run_isAgg hE hu, ha, if_true, run_size hE hi, loadCells, hr]
                · simp only [Nat.add_zero, Array.empty_append] at har
                  exact .agg har.1 har.2
            | false =>
              simp only [ha, cond_false] at e
              obtain ⟨v', hc, hv⟩ := h.cell hk hm e
              refine .pure h (v' := v') ?_ hv
              simp only [Instr.loadAt, Instr.sureAddr, Sem.run_bind, Sem.run_pure, Result.andThen_ok, loadVar, run_isAgg hE hu, ha, Bool.false_eq_true, if_false, run_load, hc]
      | _ => simp [hk] at e
  | _ => simp [aload] at e
/-- Cells that are written. -/
def astore (E : Env) (H : AH) (t : Nat) (v : Value) : Value → Option AH
  | .pointer (some ⟨k, o, none⟩) => match H.t.get k, E.info t with
    | some (.cells c el x true), some i => bif Nat.beq i.size v.cells.toList.length && Nat.ble (o + i.size) c.length && v.cells.toList.all (·.oneCell') then some (H.put k (.cells (setRange c o v.cells.toList) el x true)) else none
    | _, _ => none
  | _ => none
theorem astore_ok (hE : E.Ok P) (h : Rel μ H w0 w) {t : Nat} {x x' v v' : Value} {H' : AH} (hx : VR μ x x') (hv : VR μ v v') (e : astore E H t v x = some H') :
    ∃ w', (Instr.storeAt t x' v').run P w = .ok () w' ∧ Rel μ H' w0 w' := by
  cases hx with
  | @ptr k g s o hm =>
    simp only [astore] at e
    cases hk : H.t.get k with
    | none => simp [hk] at e
    | some b =>
      cases b with
      | cells c el x rw =>
        cases rw with
        | false => simp [hk] at e
        | true =>
          cases hi : E.info t with
          | none => simp [hk, hi] at e
          | some i =>
            simp only [hk, hi] at e
            cases hb : (Nat.beq i.size v.cells.toList.length && Nat.ble (o + i.size) c.length && v.cells.toList.all (·.oneCell')) with
            | false => rw [hb] at e; cases e
            | true =>
              rw [hb] at e
              simp only [cond_true, Option.some.injEq] at e
              subst e
              simp only [Bool.and_eq_true] at hb
              obtain ⟨⟨b1, b2⟩, b3⟩ := hb
              have b1 := Nat.eq_of_beq_eq_true b1
              have b2 := Nat.le_of_ble_eq_true b2
              have hl := hv.cells
              obtain ⟨w', hw, hr⟩ := Rel.stores (P := P) hm v.cells.toList v'.cells.toList H c w 0 o h hk hl b3 (by omega)
              refine ⟨w', ?_, by simpa using hr⟩
              have hs : v'.cells.size = i.size := by have := hl.1; simp at this b1; omega
              simp only [Instr.storeAt, Instr.sureAddr, Sem.run_bind, Sem.run_pure, Result.andThen_ok, storeVar, run_size hE hi, hs, ne_eq, not_true_eq_false, if_false, hw]
              first | done | rfl
      | _ => simp [hk] at e
  | _ => simp [astore] at e
/-- New cells. -/
def anew (H : AH) (t : Nat) (c : List Value) : Option (Value × AH) :=
  bif Nat.blt (H.next + 1) 1099511627776 then some (.pointer (some ⟨H.next, 0, none⟩), H.alloc (.cells c t true true)) else none
theorem anew_ok (h : Rel μ H w0 w) {t : Nat} {c : List Value} {v : Value} {H' : AH} {c' : Array Value} (hc : LR μ c c'.toList) (e : anew H t c = some (v, H')) : GotV P (do pure (.pointer (some (← newRow t c')))) μ w0 w v H' := by
  unfold anew at e
  cases hb : Nat.blt (H.next + 1) 1099511627776 with
  | false => rw [hb] at e; cases e
  | true =>
    rw [hb] at e
    cases e
    have hn : H.next + 1 < 2 ^ 40 := by have := Nat.le_of_ble_eq_true hb; simp at this; omega
    obtain ⟨ν, n1, n2, n3⟩ := h.alloc hn (b := .cells c t true true) (o := .cells c' t) (s := c'.size)
      ⟨c', (0, 0), t, rfl, rfl, fun _ => ⟨rfl, .inl rfl⟩, fun _ => by have := hc.1; simp at this; omega, by have := hc.1; simp at this; omega, fun i u hu => by
        have hi : i < c.length := by
          rcases Nat.lt_or_ge i c.length with k | k
          · exact k
          · rw [List.getElem?_eq_none k] at hu; cases hu
        have hi' : i < c'.size := by have := hc.1; simp at this; omega
        exact ⟨c'[i], Array.getElem?_eq_getElem hi', hc.2 i u _ hu (by simp [hi'])⟩⟩
    refine ⟨ν, .pointer (some ⟨w.heap.size, 0, none⟩), w.alloc (.cells c' t), ?_, n1, n3, .ptr 0 n2⟩
    simp only [newRow, newObj, Sem.run_bind, Sem.run, Result.andThen_ok]
    rfl
end
end AM
end Go.Proofs.YtdmbppgogdkpdaaGreatDoor
namespace Go.Proofs.YtdmbppgogdkpdaaGreatDoor
namespace AM
open Go.RowKit
variable [Toks]

theorem LR.set {μ : Mp} {l l' : List Value} (r : LR μ l l') {v v' : Value} (h : VR μ v v') (i : Nat) : LR μ (l.set i v) (l'.set i v') := by
  refine ⟨by simp [r.1], fun j x x' h1 h2 => ?_⟩
  rw [List.getElem?_set] at h1 h2
  by_cases e : i = j
  · subst e
    simp only [if_true] at h1 h2
    split at h1
    · rw [if_pos (by rw [← r.1]; assumption)] at h2
      cases h1; cases h2; exact h
    · cases h1
  · rw [if_neg e] at h1 h2; exact r.2 j x x' h1 h2
theorem LR.setRange {μ : Mp} : ∀ (vs vs' l l' : List Value) (o : Nat), LR μ vs vs' → LR μ l l' → LR μ (setRange l o vs) (setRange l' o vs')
  | [], vs', l, l', o, hv, hl => by rw [hv.inv_nil]; exact hl
  | v :: vs, vs', l, l', o, hv, hl => by
    obtain ⟨u, us, rfl, hu, hus⟩ := hv.inv
    exact LR.setRange vs us _ _ (o + 1) hus (hl.set hu o)
theorem LR.take {μ : Mp} {l l' : List Value} (r : LR μ l l') (n : Nat) : LR μ (l.take n) (l'.take n) := by
  refine ⟨by simp [r.1], fun i x x' h1 h2 => ?_⟩
  rw [List.getElem?_take] at h1 h2
  split at h1
  · rw [if_pos (by assumption)] at h2; exact r.2 i x x' h1 h2
  · cases h1
theorem LR.drop {μ : Mp} {l l' : List Value} (r : LR μ l l') (n : Nat) : LR μ (l.drop n) (l'.drop n) := by
  refine ⟨by simp [r.1], fun i x x' h1 h2 => ?_⟩
  rw [List.getElem?_drop] at h1 h2
  exact r.2 _ x x' h1 h2
theorem LR.get {μ : Mp} {l l' : List Value} (r : LR μ l l') {i : Nat} {v : Value} (h : l[i]? = some v) : ∃ v', l'[i]? = some v' ∧ VR μ v v' := by
  obtain ⟨hi, _⟩ := List.getElem?_eq_some_iff.1 h
  have hi' : i < l'.length := by rw [← r.1]; exact hi
  exact ⟨l'[i], List.getElem?_eq_getElem hi', r.2 i _ _ h (List.getElem?_eq_getElem hi')⟩
theorem LR.refl_of {μ : Mp} {l : List Value} (h : l.all (cval 6) = true) : LR μ l l :=
  ⟨rfl, fun i v v' h1 h2 => by
    rw [h1] at h2; cases h2
    exact cval_ok μ 6 v (List.all_eq_true.1 h v (List.mem_of_getElem? h1))⟩

section
variable {P : Program} {E : Env} {μ : Mp} {H : AH} {w0 : Base} {w : World}
def afieldAddr (E : Env) (s f : Nat) : Value → Option Value
  | .pointer (some ⟨k, o, none⟩) => match E.und s with
    | some (.struct fs) => match fs[f]? with
      | some fd => match E.info fd.type with
        | some i => bif Nat.beq i.size 0 then none else some (.pointer (some ⟨k, o + fd.offset, none⟩))
        | none => none
      | none => none
    | _ => none
  | _ => none
theorem afieldAddr_ok (hE : E.Ok P) (h : Rel μ H w0 w) {s f : Nat} {x x' v : Value} (hx : VR μ x x') (e : afieldAddr E s f x = some v) : GotV P (Instr.fieldAt s x' f) μ w0 w v H := by
  cases hx with
  | @ptr k g z o hm =>
    simp only [afieldAddr] at e
    split at e
    · rename_i fs hu
      split at e
      · rename_i fd hf
        split at e
        · rename_i i hi
          cases hb : Nat.beq i.size 0 with
          | true => rw [hb] at e; cases e
          | false =>
            rw [hb] at e; cases e
            have hne : i.size ≠ 0 := fun e => by rw [e] at hb; cases hb
            refine .pure h (v' := .pointer (some ⟨g, o + fd.offset, none⟩)) ?_ (.ptr _ hm)
            simp only [Instr.fieldAt, Instr.sureAddr, Sem.run_bind, run_und hE hu, Result.andThen_ok, hf, Sem.run_pure, fieldPlace, run_size hE hi, if_neg hne, addr_add]
        · cases e
      · cases e
    · cases e
  | _ => simp [afieldAddr] at e
def aindexAddr (E : Env) (t : Nat) : Value → Value → Option Value
  | .slice (some ⟨k, o, none⟩) n _, .int _ i => match E.und t with
    | some (.slice el) => match E.info el with
      | some inf => if 0 ≤ i ∧ i < (n : Int) then some (.pointer (some ⟨k, o + i.toNat * inf.size, none⟩)) else none
      | none => none
    | _ => none
  | .pointer (some ⟨k, o, none⟩), .int _ i => match E.und t with
    | some (.array n el) => match E.info el with
      | some inf => if 0 ≤ i ∧ i < (n : Int) then some (.pointer (some ⟨k, o + i.toNat * inf.size, none⟩)) else none
      | none => none
    | _ => none
  | _, _ => none
theorem aindexAddr_slice (hE : E.Ok P) {t : Nat} {el : TypeId} {inf : TypeInfo} {g o n c : Nat} {kk : IntKind} {i : Int} (hu : E.und t = some (.slice el)) (hi : E.info el = some inf) (hb : 0 ≤ i ∧ i < (n : Int)) :
    (Instr.indexAt t (.slice (some ⟨g, o, none⟩) n c) (.int kk i)).run P w = .ok (.pointer (some ⟨g, o + i.toNat * inf.size, none⟩)) w := by
  simp only [Instr.indexAt, asIntOf, Sem.run_bind, Sem.run_pure, Result.andThen_ok, run_und hE hu, if_pos hb, run_size hE hi, addr_add, Bool.and_false]
theorem aindexAddr_array (hE : E.Ok P) {t : Nat} {el : TypeId} {inf : TypeInfo} {g o n : Nat} {kk : IntKind} {i : Int} (hu : E.und t = some (.array n el)) (hi : E.info el = some inf) (hb : 0 ≤ i ∧ i < (n : Int)) :
    (Instr.indexAt t (.pointer (some ⟨g, o, none⟩)) (.int kk i)).run P w = .ok (.pointer (some ⟨g, o + i.toNat * inf.size, none⟩)) w := by
  simp only [Instr.indexAt, asIntOf, Sem.run_bind, Sem.run_pure, Result.andThen_ok, run_und hE hu, Instr.sureAddr, if_pos hb, run_size hE hi, addr_add]
theorem aindexAddr_ok (hE : E.Ok P) (h : Rel μ H w0 w) {t : Nat} {x x' i i' v : Value} (hx : VR μ x x') (hi : VR μ i i') (e : aindexAddr E t x i = some v) : GotV P (Instr.indexAt t x' i') μ w0 w v H := by
  unfold aindexAddr at e
  split at e
  · cases hi
    split at e
    · rename_i hu
      split at e
      · rename_i hf
        split at e
        · rename_i hb
          cases e
          cases hx with
          | sl o n c hm hc => exact .pure h (aindexAddr_slice hE hu hf hb) (.ptr _ hm)
          | slx o n c c' ez hm h1 h2 h3 h4 h5 => exact .pure h (aindexAddr_slice hE hu hf hb) (.ptr _ hm)
        · cases e
      · cases e
    · cases e
  · cases hi
    split at e
    · rename_i hu
      split at e
      · rename_i hf
        split at e
        · rename_i hb
          cases e
          cases hx with
          | ptr o hm => exact .pure h (aindexAddr_array hE hu hf hb) (.ptr _ hm)
        · cases e
      · cases e
    · cases e
  · cases e
/-- A part of a composite. -/
def apart (E : Env) (t : Nat) (cs : List Value) (off : Nat) : Option Value := match E.und t, E.info t with
  | some d, some i => bif isAggB d then (bif Nat.ble (off + i.size) cs.length then some (.agg ((cs.drop off).take i.size).toArray) else none) else cs[off]?
  | _, _ => none
theorem apart_ok (hE : E.Ok P) {t off : Nat} {cs cs' : Array Value} {v : Value} (hc : AR μ cs cs') (e : apart E t cs.toList off = some v) (w : World) : ∃ v', (part t cs' off).run P w = .ok v' w ∧ VR μ v v' := by
  unfold apart at e
  split at e
  · rename_i d i hu hi
    cases ha : isAggB d with
    | true =>
      simp only [ha, cond_true] at e
      cases hb : Nat.ble (off + i.size) cs.toList.length with
      | false => rw [hb] at e; cases e
      | true =>
        rw [hb] at e; cases e
        have r := ((AR.toList hc).drop off).take i.size
        refine ⟨.agg (cs'.extract off (off + i.size)), ?_, ?_⟩
        · simp only [part, Sem.run_bind, run_isAgg hE hu, Result.andThen_ok, ha, if_true, run_size hE hi, Sem.run_pure]
        · have e2 : cs'.extract off (off + i.size) = ((cs'.toList.drop off).take i.size).toArray := by
            apply Array.ext'
            simp [Array.toList_extract, List.extract]
          rw [e2]
          exact .agg (LR.toArray r).1 (LR.toArray r).2
    | false =>
      simp only [ha, cond_false] at e
      obtain ⟨v', h1, h2⟩ := hc.get (i := off) (v := v) (by simpa using e)
      refine ⟨v', ?_, h2⟩
      simp only [part, Sem.run_bind, run_isAgg hE hu, Result.andThen_ok, ha, Bool.false_eq_true, if_false, h1, Sem.run_pure]
  · cases e
def afield (E : Env) (s f : Nat) : Value → Option Value
  | .agg cs => match E.und s with
    | some (.struct fs) => match fs[f]? with
      | some fd => apart E fd.type cs.toList fd.offset
      | none => none
    | _ => none
  | _ => none
theorem afield_ok (hE : E.Ok P) (h : Rel μ H w0 w) {s f : Nat} {x x' v : Value} (hx : VR μ x x') (e : afield E s f x = some v) : GotV P (Instr.field s x' f) μ w0 w v H := by
  unfold afield at e
  split at e
  · split at e
    · rename_i fs hu
      split at e
      · rename_i fd hf
        cases hx with
        | @agg c c' h1 h2 =>
          obtain ⟨v', r1, r2⟩ := apart_ok hE ⟨h1, h2⟩ e w
          refine .pure h (v' := v') ?_ r2
          simp only [Instr.field, Sem.run_bind, run_und hE hu, Result.andThen_ok, hf, asAgg, Sem.run_pure, r1]
      · cases e
    · cases e
  · cases e
theorem sget {s : ByteArray} {k : Nat} {b : UInt8} (h : s.data.toList[k]? = some b) : s[k]? = some b := by
  obtain ⟨h1, h2⟩ := List.getElem?_eq_some_iff.1 h
  rw [getElem?_pos s k (by simpa using h1)]
  rw [← h2]
  rfl
def aindex (E : Env) (t : Nat) : Value → Value → Option Value
  | .agg cs, .int _ i => match E.und t with
    | some (.array n el) => match E.info el with
      | some inf => if 0 ≤ i ∧ i < (n : Int) then apart E el cs.toList (i.toNat * inf.size) else none
      | none => none
    | _ => none
  | .string s, .int _ i => match E.und t with
    | some .string => if 0 ≤ i then (match s.data.toList[i.toNat]? with | some b => some (.int .u8 b.toNat) | none => none) else none
    | _ => none
  | _, _ => none
theorem aindex_ok (hE : E.Ok P) (h : Rel μ H w0 w) {t : Nat} {x x' i i' v : Value} (hx : VR μ x x') (hi : VR μ i i') (e : aindex E t x i = some v) : GotV P (Instr.index t x' i') μ w0 w v H := by
  unfold aindex at e
  split at e
  · cases hi
    split at e
    · rename_i hu
      split at e
      · rename_i hf
        split at e
        · rename_i hb
          cases hx with
          | @agg c c' h1 h2 =>
            obtain ⟨v', r1, r2⟩ := apart_ok hE ⟨h1, h2⟩ e w
            refine .pure h (v' := v') ?_ r2
            simp only [Instr.index, asIntOf, Sem.run_bind, Sem.run_pure, run_und hE hu, Result.andThen_ok, if_pos hb, run_size hE hf, r1]
        · cases e
      · cases e
    · cases e
  · cases hi
    cases hx
    split at e
    · rename_i hu
      split at e
      · rename_i hb
        split at e
        · rename_i b hs
          cases e
          refine .pure h (v' := .int .u8 b.toNat) ?_ (.int _ _)
          simp only [Instr.index, asIntOf, Sem.run_bind, Sem.run_pure, run_und hE hu, Result.andThen_ok, if_pos hb, sget hs]
        · cases e
      · cases e
    · cases e
  · cases e
def aextract (ix : Nat) : Value → Option Value
  | .tuple vs => vs.toList[ix]?
  | _ => none
theorem aextract_ok (h : Rel μ H w0 w) {ix : Nat} {x x' v : Value} (hx : VR μ x x') (e : aextract ix x = some v) : GotV P (Instr.extract x' ix) μ w0 w v H := by
  unfold aextract at e
  split at e
  · cases hx with
    | @tuple c c' h1 h2 =>
      obtain ⟨v', r1, r2⟩ := AR.get ⟨h1, h2⟩ (i := ix) (v := v) (by simpa using e)
      refine .pure h (v' := v') ?_ r2
      simp only [Instr.extract, r1, Sem.run_pure]
  · cases e
def anilCheck : Value → Option Value
  | .pointer (some a) => some (.pointer (some a))
  | .func (.func f) a c => some (.func (.func f) a c)
  | .iface t v => some (.iface t v)
  | _ => none
end
end AM
end Go.Proofs.YtdmbppgogdkpdaaGreatDoor
namespace Go.Proofs.YtdmbppgogdkpdaaGreatDoor
namespace AM
open Go.RowKit
variable [Toks]

theorem foldl_setRange (off : Nat) : ∀ (l : List Value) (k : Nat) (C : Array Value), (List.foldl (fun (cs : Array Value) (p : Value × Nat) => cs.setIfInBounds (off + p.2) p.1) C (l.zipIdx k)).toList = setRange C.toList (off + k) l
  | [], k, C => rfl
  | v :: l, k, C => by
    rw [List.zipIdx_cons, List.foldl_cons, foldl_setRange off l (k + 1)]
    simp only [Array.toList_setIfInBounds, setRange]
    rfl
theorem foldl_cells (off : Nat) (v : Array Value) (C : Array Value) : (v.zipIdx.foldl (fun cs (c, j) => cs.setIfInBounds (off + j) c) C).toList = setRange C.toList off v.toList := by
  rw [← Array.foldl_toList, Array.toList_zipIdx]
  exact foldl_setRange off v.toList 0 C
def afill (place : Nat → Option (Nat × Nat)) : List Value → List (Nat × Value) → Option (List Value)
  | cells, [] => some cells
  | cells, (i, v) :: rest => match place i with
    | none => none
    | some (off, size) => bif Nat.beq v.cells.toList.length size && Nat.ble (off + size) cells.length then afill place (setRange cells off v.cells.toList) rest else none
/-- Parts, by their places. -/
def PR (μ : Mp) : List (Nat × Value) → List (Nat × Value) → Prop
  | [], [] => True
  | (i, v) :: l, (j, u) :: m => i = j ∧ VR μ v u ∧ PR μ l m
  | _, _ => False
theorem afill_ok {μ : Mp} {place place' : Nat → Option (Nat × Nat)} (hp : ∀ i, place' i = place i) : ∀ (ps ps' : List (Nat × Value)) (c r : List Value) (c' : Array Value), PR μ ps ps' → LR μ c c'.toList → afill place c ps = some r → ∃ r', Instr.fill place' c' ps' = some r' ∧ LR μ r r'.toList
  | [], [], c, r, c', _, hc, e => by
    simp only [afill, Option.some.injEq] at e
    subst e
    exact ⟨c', rfl, hc⟩
  | (i, v) :: ps, (j, u) :: ps', c, r, c', h, hc, e => by
    obtain ⟨rfl, hv, hps⟩ := h
    simp only [afill] at e
    cases hi : place i with
    | none => simp [hi] at e
    | some q =>
      obtain ⟨off, size⟩ := q
      simp only [hi] at e
      cases hb : (Nat.beq v.cells.toList.length size && Nat.ble (off + size) c.length) with
      | false => rw [hb] at e; cases e
      | true =>
        rw [hb, cond_true] at e
        simp only [Bool.and_eq_true] at hb
        have b1 := Nat.eq_of_beq_eq_true hb.1
        have b2 := Nat.le_of_ble_eq_true hb.2
        have hl := hv.cells
        have l1 := hl.1
        have l2 := hc.1
        simp only [Array.length_toList] at l1 l2 b1
        obtain ⟨r', h1, h2⟩ := afill_ok hp ps ps' _ r (u.cells.zipIdx.foldl (fun cs (c, j) => cs.setIfInBounds (off + j) c) c') hps (by
          rw [foldl_cells]; exact LR.setRange _ _ _ _ off hl hc) e
        refine ⟨r', ?_, h2⟩
        rw [Instr.fill]
        simp only [hp, hi]
        rw [if_neg (by simp; omega)]
        exact h1
  | [], _ :: _, _, _, _, h, _, _ => h.elim
  | _ :: _, [], _, _, _, h, _, _ => h.elim

section
variable {P : Program} {E : Env} {μ : Mp} {H : AH} {w0 : Base} {w : World}
def aplaces (E : Env) : List Field → Option (List (Nat × Nat))
  | [] => some []
  | f :: fs => match E.info f.type, aplaces E fs with
    | some i, some l => some ((f.offset, i.size) :: l)
    | _, _ => none
theorem aplaces_ok (hE : E.Ok P) : ∀ (fs : List Field) (l : List (Nat × Nat)) (w : World), aplaces E fs = some l → (fs.mapM fun f => do pure (f.offset, ← Go.sizeOf f.type) : Sem (List (Nat × Nat))).run P w = .ok l w
  | [], l, w, e => by cases e; rfl
  | f :: fs, l, w, e => by
    simp only [aplaces] at e
    split at e
    · rename_i i m hi hm
      cases e
      have ih := aplaces_ok hE fs m w hm
      simp only [List.mapM_cons, Sem.run_bind, run_size hE hi, Result.andThen_ok, Sem.run_pure, ih]
    · cases e
def abuild (E : Env) (t : Nat) (ps : List (Nat × Value)) : Option Value := match E.info t, E.und t with
  | some i, some d => match i.zero, d with
    | some z, .struct fs => bif z.cells.toList.all (cval 6) then (match aplaces E fs.toList with
        | some l => match afill (fun k => l[k]?) z.cells.toList ps with
          | some r => some (.agg r.toArray)
          | none => none
        | none => none) else none
    | some z, .array _ el => bif z.cells.toList.all (cval 6) then (match E.info el with
        | some j => match afill (fun k => some (k * j.size, j.size)) z.cells.toList ps with
          | some r => some (.agg r.toArray)
          | none => none
        | none => none) else none
    | _, _ => none
  | _, _ => none
theorem AR.of_list {μ : Mp} {l : List Value} {a : Array Value} (h : LR μ l a.toList) : AR μ l.toArray a := by
  have := LR.toArray h
  simpa using this
theorem abuild_ok (hE : E.Ok P) (h : Rel μ H w0 w) {t : Nat} {ps : List (Nat × Value)} {ps' : Array (Nat × Value)} {v : Value} (hp : PR μ ps ps'.toList) (e : abuild E t ps = some v) : GotV P (Instr.build t ps') μ w0 w v H := by
  unfold abuild at e
  split at e
  · rename_i i d hi hu
    split at e
    · rename_i z fs hz
      cases hb : z.cells.toList.all (cval 6) with
      | false => rw [hb] at e; cases e
      | true =>
        rw [hb, cond_true] at e
        split at e
        · rename_i l hl
          split at e
          · rename_i r hr
            cases e
            obtain ⟨r', h1, h2⟩ := afill_ok (place' := fun k => l.toArray[k]?) (fun k => by simp) ps ps'.toList _ r z.cells hp (LR.refl_of hb) hr
            refine .pure h (v' := .agg r') ?_ (.agg (AR.of_list h2).1 (AR.of_list h2).2)
            have hm := aplaces_ok hE fs.toList l w hl
            have hm2 : (fs.mapM fun f => do pure (f.offset, ← Go.sizeOf f.type) : Sem (Array (Nat × Nat))).run P w = .ok l.toArray w := by
              rw [Array.mapM_eq_mapM_toList]
              simp only [Sem.run_map, hm, Result.andThen_ok]
            simp only [Instr.build, Sem.run_bind, run_zero hE hi hz, Result.andThen_ok, run_und hE hu, hm2, h1, Sem.run_pure]
          · cases e
        · cases e
    · rename_i z n el hz
      cases hb : z.cells.toList.all (cval 6) with
      | false => rw [hb] at e; cases e
      | true =>
        rw [hb, cond_true] at e
        split at e
        · rename_i j hj
          split at e
          · rename_i r hr
            cases e
            obtain ⟨r', h1, h2⟩ := afill_ok (place' := fun k => some (k * j.size, j.size)) (fun k => rfl) ps ps'.toList _ r z.cells hp (LR.refl_of hb) hr
            refine .pure h (v' := .agg r') ?_ (.agg (AR.of_list h2).1 (AR.of_list h2).2)
            simp only [Instr.build, Sem.run_bind, run_zero hE hi hz, Result.andThen_ok, run_und hE hu, run_size hE hj, h1, Sem.run_pure]
          · cases e
        · cases e
    · cases e
  · cases e
/-- A zero over and over. -/
def arep (z : Array Value) (n : Nat) : List Value := (List.range n).map fun j => z[j % z.size]!
theorem arep_eq (z : Array Value) (n : Nat) : ((Array.range n).map (z[· % z.size]!)).toList = arep z n := by
  simp [arep, Array.toList_map, Array.toList_range]
/-- A new row and the slice of it. -/
def arow (H : AH) (el : Nat) (c : List Value) (n m : Nat) : Option (Value × AH) :=
  bif Nat.blt (H.next + 1) 1099511627776 && Nat.blt m big then some (.slice (some ⟨H.next, 0, none⟩) n m, H.alloc (.cells c el true true)) else none
theorem arow_ok (h : Rel μ H w0 w) {el n m : Nat} {c : List Value} {v : Value} {H' : AH} {c' : Array Value} (hc : LR μ c c'.toList) (e : arow H el c n m = some (v, H')) :
    GotV P (do pure (.slice (some (← newRow el c')) n m)) μ w0 w v H' := by
  unfold arow at e
  cases hb : (Nat.blt (H.next + 1) 1099511627776 && Nat.blt m big) with
  | false => rw [hb] at e; cases e
  | true =>
    rw [hb] at e
    simp only [cond_true, Option.some.injEq, Prod.mk.injEq] at e
    obtain ⟨rfl, rfl⟩ := e
    simp only [Bool.and_eq_true] at hb
    have hm : m < big := Nat.le_of_ble_eq_true hb.2
    obtain ⟨ν, p, w', h1, h2, h3, h4⟩ := anew_ok (P := P) h (t := el) (v := .pointer (some ⟨H.next, 0, none⟩)) (H' := H.alloc (.cells c el true true)) hc (by unfold anew; rw [hb.1]; rfl)
    cases h4 with
    | @ptr k g s o hm2 =>
      simp only [newRow, newObj, Sem.run_bind, Sem.run, Result.andThen_ok, Sem.run_pure, Result.ok.injEq, Value.pointer.injEq, Option.some.injEq, Addr.mk.injEq, and_true] at h1
      obtain ⟨rfl, rfl⟩ := h1
      refine ⟨ν, .slice (some ⟨w.heap.size, 0, none⟩) n m, _, ?_, h2, h3, .sl 0 n m hm2 hm⟩
      simp only [newRow, newObj, Sem.run_bind, Sem.run, Result.andThen_ok, Sem.run_pure]
end
end AM
end Go.Proofs.YtdmbppgogdkpdaaGreatDoor
namespace Go.Proofs.YtdmbppgogdkpdaaGreatDoor
namespace AM
open Go.RowKit
variable [Toks]

theorem wrap_small {i : Int} (h0 : 0 ≤ i) (h1 : i ≤ 1099511627776) : IntKind.i64.wrap i = i := Go.IntWalk.i64_in i (by omega)
section
variable {P : Program} {E : Env} {μ : Mp} {H : AH} {w0 : Base} {w : World}
def amakeSlice (E : Env) (H : AH) (t : Nat) : Value → Value → Option (Value × AH)
  | .int _ L, .int _ C => match E.und t with
    | some (.slice el) => match E.info el with
      | some i => match i.zero with
        | some z =>
          if 0 ≤ L ∧ L ≤ C ∧ C ≤ 1048576 ∧ i.bytes ≤ 1048576 then
            let l := arep (bif Nat.beq (C.toNat * i.size) 0 then #[] else z.cells) (C.toNat * i.size)
            bif l.all (cval 6) then arow H el l L.toNat C.toNat else none
          else none
        | none => none
      | none => none
    | _ => none
  | _, _ => none
theorem amakeSlice_ok (hE : E.Ok P) (h : Rel μ H w0 w) {t : Nat} {x x' y y' v : Value} {H' : AH} (hx : VR μ x x') (hy : VR μ y y') (e : amakeSlice E H t x y = some (v, H')) :
    GotV P (Instr.makeSlice t x' y') μ w0 w v H' := by
  unfold amakeSlice at e
  split at e
  · rename_i k1 L k2 C
    cases hx; cases hy
    split at e
    · rename_i el hu
      split at e
      · rename_i i hi
        split at e
        · rename_i z hz
          split at e
          · rename_i hb
            obtain ⟨b1, b2, b3, b4⟩ := hb
            dsimp only at e
            cases hc : (arep (bif Nat.beq (C.toNat * i.size) 0 then #[] else z.cells) (C.toNat * i.size)).all (cval 6) with
            | false => rw [hc] at e; cases e
            | true =>
              rw [hc, cond_true] at e
              obtain ⟨n, rfl⟩ : ∃ n : Nat, C = n := ⟨C.toNat, by omega⟩
              simp only [Int.toNat_natCast] at *
              have hmul : (i.bytes : Int) * (n : Int) ≤ 2 ^ 48 := by
                have h1 : i.bytes * n ≤ 1048576 * 1048576 := Nat.mul_le_mul b4 (by omega)
                have : ((i.bytes * n : Nat) : Int) ≤ 1099511627776 := by omega
                rw [Int.natCast_mul] at this
                omega
              have hg := arow_ok (P := P) h (c' := (Array.range (n * i.size)).map ((bif Nat.beq (n * i.size) 0 then #[] else z.cells)[· % (bif Nat.beq (n * i.size) 0 then #[] else z.cells).size]!)) (by rw [arep_eq]; exact LR.refl_of hc) e
              obtain ⟨ν, v', w', r1, r2⟩ := hg
              refine ⟨ν, v', w', ?_, r2⟩
              rw [← r1]
              have w1 : IntKind.i64.wrap L = L := wrap_small b1 (by omega)
              have w2 : IntKind.i64.wrap (n : Int) = n := wrap_small (by omega) (by omega)
              simp only [Instr.makeSlice, asInt, asIntOf, Sem.run_bind, run_und hE hu, run_info hE hi, run_size hE hi, Result.andThen_ok, Sem.run_pure, w1, w2]
              rw [if_neg (by simp; omega)]
              simp only [Sem.run_bind, run_askRoom, Result.andThen_ok, Int.toNat_natCast, run_size hE hi]
              by_cases h0 : n * i.size = 0
              · rw [if_pos h0, h0]
                simp only [Sem.run_bind, Sem.run_pure, Result.andThen_ok]
                rfl
              · rw [if_neg h0, beq_ne h0]
                simp only [Sem.run_bind, run_zero hE hi hz, Result.andThen_ok, Sem.run_pure, cond_false]
          · cases e
        · cases e
      · cases e
    · cases e
  · cases e
/-- A bound of a slice expression. -/
def abnd (d lim : Nat) : Option Value → Option Nat
  | none => some d
  | some (.int _ i) => if 0 ≤ i ∧ i ≤ (lim : Int) then some i.toNat else none
  | some _ => none
def OR (μ : Mp) : Option Value → Option Value → Prop
  | none, none => True
  | some v, some u => VR μ v u
  | _, _ => False
theorem abnd_ok {d lim lim' b : Nat} {x x' : Option Value} (hx : OR μ x x') (hl : lim ≤ lim') (e : abnd d lim x = some b) (code : BoundsCode) :
    (x = none ∧ x' = none ∧ b = d) ∨ ∃ v', x' = some v' ∧ x ≠ none ∧ b ≤ lim ∧ (Instr.sliceBound v' lim' code).run P w = .ok b w := by
  cases x with
  | none =>
    cases x' with
    | none => left; cases e; exact ⟨rfl, rfl, rfl⟩
    | some v => exact hx.elim
  | some v =>
    cases x' with
    | none => exact hx.elim
    | some v' =>
      right
      simp only [OR] at hx
      cases hx with
      | int k i =>
        simp only [abnd] at e
        split at e
        · rename_i hb
          cases e
          refine ⟨_, rfl, by simp, by omega, ?_⟩
          simp only [Instr.sliceBound, asIntOf, Sem.run_bind, Sem.run_pure, Result.andThen_ok]
          rw [if_pos (by omega)]
          rfl
        · cases e
      | _ => simp [abnd] at e
/-- The bounds of a slice expression: l, h, m. -/
def abounds (n c : Nat) (lo hi mx : Option Value) : Option (Nat × Nat × Nat) := match abnd c c mx with
  | some m => match hi, mx with
    | none, some _ => none
    | _, _ => match abnd n m hi with
      | some h => match abnd 0 h lo with
        | some l => some (l, h, m)
        | none => none
      | none => none
  | none => none
theorem abounds_ok {sl : Bool} {n c c' l h m : Nat} {lo lo' hi hi' mx mx' : Option Value} (hlo : OR μ lo lo') (hhi : OR μ hi hi') (hmx : OR μ mx mx') (hc : c ≤ c') (e : abounds n c lo hi mx = some (l, h, m)) :
    (Instr.sliceBounds sl n c' lo' hi' mx').run P w = .ok (l, h, if mx.isSome then m else c') w ∧ (mx = none → m = c) ∧ (mx ≠ none → m ≤ c) ∧ (lo = none → l = 0) ∧ (lo ≠ none → l ≤ h) ∧ (hi = none → h = n) ∧ (hi ≠ none → h ≤ m) := by
  unfold abounds at e
  split at e
  · rename_i m0 hm
    split at e
    · cases e
    · rename_i hnm
      split at e
      · rename_i h0 hh
        split at e
        · rename_i l0 hl
          cases e
          have A := fun code => abnd_ok (P := P) (w := w) (μ := μ) hmx hc hm code
          rcases A .slice3Acap with ⟨rfl, rfl, rfl⟩ | ⟨vm, rfl, m1, m2, _⟩
          · have B := fun code => abnd_ok (P := P) (w := w) (μ := μ) hhi (Nat.le_trans (Nat.le_refl _) hc) hh code
            rcases B .sliceAcap with ⟨rfl, rfl, rfl⟩ | ⟨vh, rfl, h1, h2, _⟩
            · have C := fun code => abnd_ok (P := P) (w := w) (μ := μ) hlo (Nat.le_refl _) hl code
              rcases C .sliceB with ⟨rfl, rfl, rfl⟩ | ⟨vl, rfl, l1, l2, l3⟩
              · refine ⟨?_, by simp, by simp, by simp, by simp, by simp, by simp⟩
                simp [Instr.sliceBounds]
              · refine ⟨?_, by simp, by simp, fun e => (l1 e).elim, fun _ => l2, by simp, by simp⟩
                simp [Instr.sliceBounds, l3]
            · have C := fun code => abnd_ok (P := P) (w := w) (μ := μ) hlo (Nat.le_refl _) hl code
              have b3 : ∀ code, (Instr.sliceBound vh c' code).run P w = .ok h w := fun code => by
                rcases B code with ⟨hn, _⟩ | ⟨v2, e2, _, _, r2⟩
                · exact (h1 hn).elim
                · cases e2; exact r2
              rcases C .sliceB with ⟨rfl, rfl, rfl⟩ | ⟨vl, rfl, l1, l2, l3⟩
              · refine ⟨?_, by simp, by simp, by simp, by simp, fun e => (h1 e).elim, fun _ => h2⟩
                simp [Instr.sliceBounds, b3]
              · refine ⟨?_, by simp, by simp, fun e => (l1 e).elim, fun _ => l2, fun e => (h1 e).elim, fun _ => h2⟩
                simp [Instr.sliceBounds, b3, l3]
          · have a3 : ∀ code, (Instr.sliceBound vm c' code).run P w = .ok m w := fun code => by
              rcases A code with ⟨hn, _⟩ | ⟨v2, e2, _, _, r2⟩
              · exact (m1 hn).elim
              · cases e2; exact r2
            have B := fun code => abnd_ok (P := P) (w := w) (μ := μ) hhi (Nat.le_refl m) hh code
            have C := fun code => abnd_ok (P := P) (w := w) (μ := μ) hlo (Nat.le_refl _) hl code
            obtain ⟨um, rfl⟩ := Option.ne_none_iff_exists'.1 m1
            rcases B .slice3B with ⟨rfl, rfl, rfl⟩ | ⟨vh, rfl, h1, h2, h3⟩
            · exact (hnm _ rfl rfl).elim
            · rcases C .slice3C with ⟨rfl, rfl, rfl⟩ | ⟨vl, rfl, l1, l2, l3⟩
              · refine ⟨?_, by simp, fun _ => m2, by simp, by simp, fun e => (h1 e).elim, fun _ => h2⟩
                simp [Instr.sliceBounds, a3, h3]
              · refine ⟨?_, by simp, fun _ => m2, fun e => (l1 e).elim, fun _ => l2, fun e => (h1 e).elim, fun _ => h2⟩
                simp [Instr.sliceBounds, a3, h3, l3]
        · cases e
      · cases e
  · cases e
end
end AM
end Go.Proofs.YtdmbppgogdkpdaaGreatDoor
namespace Go.Proofs.YtdmbppgogdkpdaaGreatDoor
namespace AM
open Go.RowKit
variable [Toks]

section
variable {P : Program} {E : Env} {μ : Mp} {H : AH} {w0 : Base} {w : World}
def aslice (E : Env) (t : Nat) (x : Value) (lo hi mx : Option Value) : Option Value := match x, E.und t with
  | .slice a n c, some (.slice el) => match E.info el with
    | some i => match a with
      | none => match abounds n c lo hi mx with
        | some (l, h, m) => some (.slice none (h - l) (m - l))
        | none => none
      | some ⟨k, o, none⟩ =>
        bif Nat.blt c big then (match abounds n c lo hi mx with
          | some (l, h, m) => some (.slice (some ⟨k, (bif Nat.beq m l then o else o + l * i.size), none⟩) (h - l) (m - l))
          | none => none)
        else (match abounds n (c % big) lo hi mx with
          | some (l, h, m) => match mx with
            | some _ => some (.slice (some ⟨k, (bif Nat.beq m l then o else o + l * i.size), none⟩) (h - l) (m - l))
            | none => bif Nat.beq (c / big) i.size && Nat.blt l (c % big) && Nat.ble h (c % big) then some (.slice (some ⟨k, o + l * i.size, none⟩) (h - l) (i.size * big + (c % big - l))) else none
          | none => none)
      | some ⟨_, _, some _⟩ => none
    | none => none
  | .pointer (some ⟨k, o, none⟩), some (.array n el) => match E.info el with
    | some i => match abounds n n lo hi mx with
      | some (l, h, m) => bif Nat.blt n big then some (.slice (some ⟨k, (bif Nat.beq m l then o else o + l * i.size), none⟩) (h - l) (m - l)) else none
      | none => none
    | none => none
  | _, _ => none
theorem slice_addr (g o l m z : Nat) : (if m = l then (⟨g, o, none⟩ : Addr) else (⟨g, o, none⟩ : Addr).add (l * z)) = ⟨g, (bif Nat.beq m l then o else o + l * z), none⟩ := by
  by_cases e : m = l
  · subst e; simp
  · rw [if_neg e, beq_ne e, addr_add]; rfl
theorem run_slice_some (hE : E.Ok P) {t : Nat} {el : TypeId} {i : TypeInfo} (hu : E.und t = some (.slice el)) (hi : E.info el = some i) {a : Option Addr} {n c l h m : Nat} {lo hi' mx : Option Value} (hb : (Instr.sliceBounds true n c lo hi' mx).run P w = .ok (l, h, m) w) :
    (Instr.sliceAt t (.slice a n c) lo hi' mx).run P w = .ok (.slice (if m = l then a else a.map (·.add (l * i.size))) (h - l) (m - l)) w := by
  simp only [Instr.sliceAt, Instr.slice, Sem.run_bind, run_und hE hu, Result.andThen_ok, hb, run_size hE hi, Sem.run_pure]
theorem div_big {e c : Nat} (h : c < big) : (e * big + c) / big = e ∧ (e * big + c) % big = c := by
  have : 0 < big := by decide
  constructor
  · rw [Nat.mul_comm, Nat.mul_add_div this, Nat.div_eq_of_lt h]; rfl
  · rw [Nat.mul_comm, Nat.mul_add_mod, Nat.mod_eq_of_lt h]
theorem aslice_ok (hE : E.Ok P) (h : Rel μ H w0 w) {t : Nat} {x x' v : Value} {lo lo' hi hi' mx mx' : Option Value} (hx : VR μ x x') (hlo : OR μ lo lo') (hhi : OR μ hi hi') (hmx : OR μ mx mx') (e : aslice E t x lo hi mx = some v) :
    GotV P (Instr.sliceAt t x' lo' hi' mx') μ w0 w v H := by
  unfold aslice at e
  split at e
  · rename_i a n c el hu
    split at e
    · rename_i i hi0
      split at e
      · split at e
        · rename_i l h0 m hb
          cases e
          cases hx
          obtain ⟨r, r1, r2, _⟩ := abounds_ok (P := P) (w := w) (sl := true) hlo hhi hmx (Nat.le_refl _) hb
          refine .pure h (run_slice_some hE hu hi0 r) ?_
          cases hm : mx with
          | none =>
            have := r1 hm
            simp only [Option.isSome_none, Bool.false_eq_true, if_false, Option.map_none, ite_self, this]
            exact .snil _ _
          | some y =>
            simp only [Option.isSome_some, if_true, Option.map_none, ite_self]
            exact .snil _ _
        · cases e
      · rename_i k o
        cases hc : Nat.blt c big with
        | true =>
          rw [hc, cond_true] at e
          split at e
          · rename_i l h0 m hb
            cases e
            have hcb : c < big := Nat.le_of_ble_eq_true hc
            cases hx with
            | @sl k g s o n c hm hlt =>
              obtain ⟨r, r1, r2, _⟩ := abounds_ok (P := P) (w := w) (sl := true) hlo hhi hmx (Nat.le_refl _) hb
              have hmm : (if mx.isSome = true then m else c) = m ∧ m ≤ c := by
                cases hm : mx with
                | none => have := r1 hm; simp [this]
                | some y => have := r2 (by simp [hm]); simp [this]
              rw [hmm.1] at r
              refine .pure h (run_slice_some hE hu hi0 r) ?_
              have e2 : (if m = l then some (⟨g, o, none⟩ : Addr) else (some (⟨g, o, none⟩ : Addr)).map (·.add (l * i.size))) = some ⟨g, (bif Nat.beq m l then o else o + l * i.size), none⟩ := by
                rw [← slice_addr]; split <;> rfl
              rw [e2]
              exact .sl _ _ _ hm (by omega)
            | slx o n c c' ez hm h1 h2 h3 h4 h5 =>
              have : big ≤ ez * big := Nat.le_mul_of_pos_left _ h2
              omega
          · cases e
        | false =>
          rw [hc, cond_false] at e
          have hcb : ¬ c < big := by
            intro hlt
            have : Nat.blt c big = true := Nat.ble_eq_true_of_le hlt
            rw [this] at hc; cases hc
          cases hx with
          | sl o n c hm hlt => exact (hcb hlt).elim
          | @slx k g s o n c c' ez hm h1 h2 h3 h4 h5 =>
            rw [(div_big h5).1, (div_big h5).2] at e
            split at e
            · rename_i l h0 m hb
              obtain ⟨r, r1, r2, r3, r4, r5, r6⟩ := abounds_ok (P := P) (w := w) (sl := true) hlo hhi hmx h4 hb
              split at e
              · rename_i y
                cases e
                simp only [Option.isSome_some, if_true] at r
                refine .pure h (run_slice_some hE hu hi0 r) ?_
                have e2 : (if m = l then some (⟨g, o, none⟩ : Addr) else (some (⟨g, o, none⟩ : Addr)).map (·.add (l * i.size))) = some ⟨g, (bif Nat.beq m l then o else o + l * i.size), none⟩ := by
                  rw [← slice_addr]; split <;> rfl
                rw [e2]
                have := r2 (by simp)
                exact .sl _ _ _ hm (by omega)
              · cases hcond : (Nat.beq ez i.size && Nat.blt l c && Nat.ble h0 c) with
                | false => rw [hcond] at e; cases e
                | true =>
                  rw [hcond, cond_true] at e
                  cases e
                  simp only [Bool.and_eq_true] at hcond
                  obtain ⟨⟨q1, q2⟩, q3⟩ := hcond
                  have q1 := Nat.eq_of_beq_eq_true q1
                  have q2 : l < c := Nat.le_of_ble_eq_true q2
                  have q3 := Nat.le_of_ble_eq_true q3
                  subst q1
                  simp only [Option.isSome_none, Bool.false_eq_true, if_false] at r
                  refine .pure h (run_slice_some hE hu hi0 r) ?_
                  rw [if_neg (by omega)]
                  simp only [Option.map_some, addr_add]
                  have hll : l ≤ h0 ∨ lo = none := by
                    by_cases hl : lo = none
                    · exact .inr hl
                    · exact .inl (r4 hl)
                  refine .slx _ _ (c - l) (c' - l) i.size hm ?_ h2 (by omega) (by omega) (by omega)
                  have : (c' - l) * i.size + l * i.size = c' * i.size := by rw [← Nat.add_mul]; congr 1; omega
                  omega
            · cases e
      · cases e
    · cases e
  · rename_i k o n el hu
    split at e
    · rename_i i hi0
      split at e
      · rename_i l h0 m hb
        cases hn : Nat.blt n big with
        | false => rw [hn] at e; cases e
        | true =>
          rw [hn, cond_true] at e
          cases e
          have hnb : n < big := Nat.le_of_ble_eq_true hn
          cases hx with
          | @ptr k g s o hm =>
            obtain ⟨r, r1, r2, _⟩ := abounds_ok (P := P) (w := w) (sl := false) hlo hhi hmx (Nat.le_refl _) hb
            have hmm : (if mx.isSome = true then m else n) = m ∧ m ≤ n := by
              cases hm : mx with
              | none => have := r1 hm; simp [this]
              | some y => have := r2 (by simp [hm]); simp [this]
            rw [hmm.1] at r
            refine .pure h (v' := .slice (some (if m = l then (⟨g, o, none⟩ : Addr) else (⟨g, o, none⟩ : Addr).add (l * i.size))) (h0 - l) (m - l)) ?_ ?_
            · simp only [Instr.sliceAt, Sem.run_bind, run_und hE hu, Result.andThen_ok, Instr.sureAddr, Sem.run_pure, r, run_size hE hi0]
            · rw [slice_addr]
              exact .sl _ _ _ hm (by omega)
      · cases e
    · cases e
  · cases e
end
end AM
end Go.Proofs.YtdmbppgogdkpdaaGreatDoor
namespace Go.Proofs.YtdmbppgogdkpdaaGreatDoor
namespace AM
open Go.RowKit
variable [Toks]

/-- What is known of types at '=='. -/
structure Eqs where
  ok : Nat → Bool
structure Eqs.Ok (Q : Eqs) (P : Program) : Prop where
  held : ∀ t, Q.ok t = true → P.stoodInHeld t = false
  guard : ∀ t, Q.ok t = true → P.eqGuardType P.depth t = false
section
variable {P : Program} {E : Env} {Q : Eqs} {μ : Mp} {H : AH} {w0 : Base} {w : World}
def beqBytes (a b : ByteArray) : Bool := a.data.toList == b.data.toList
theorem beqBytes_eq (a b : ByteArray) : (a == b) = beqBytes a b := by
  rw [beq_toListBytes, ByteArray.toList_eq, ByteArray.toList_eq]; rfl
def aeqFields (E : Env) (eq : Nat → Value → Value → Option Bool) (xs ys : List Value) : List Field → Option Bool
  | [] => some true
  | f :: fs => bif f.name == "_" then aeqFields E eq xs ys fs else
    match apart E f.type xs f.offset, apart E f.type ys f.offset with
    | some a, some b => match eq f.type a b with
      | some true => aeqFields E eq xs ys fs
      | some false => some false
      | none => none
    | _, _ => none
def aeqItems (E : Env) (eq : Nat → Value → Value → Option Bool) (el sz : Nat) (xs ys : List Value) : List Nat → Option Bool
  | [] => some true
  | i :: l => match apart E el xs (i * sz), apart E el ys (i * sz) with
    | some a, some b => match eq el a b with
      | some true => aeqItems E eq el sz xs ys l
      | some false => some false
      | none => none
    | _, _ => none
def aeq (E : Env) (Q : Eqs) : Nat → Nat → Value → Value → Option Bool
  | 0, _, _, _ => none
  | d + 1, t, x, y => match E.und t with
    | none => none
    | some ds => match ds, x, y with
      | .bool, .bool a, .bool b => some (a == b)
      | .int _, .int k a, .int k' b => if k = k' then some (a == b) else none
      | .string, .string a, .string b => some (beqBytes a b)
      | .int _, .complex _ 0 k, .complex _ 0 j => bif Nat.beq k j then some true else none
      | .string, .complex _ 1 k, .complex _ 1 j => bif Nat.beq k j then some true else none
      | .bool, .complex _ 2 k, .complex _ 2 j => bif Nat.beq k j then some true else none
      | .int _, .complex _ 0 k, .int q n => E.teqI k q n
      | .string, .complex _ 1 k, .string s => E.teqS k s
      | .bool, .complex _ 2 k, .bool c => E.teqB k c
      | .pointer _, .pointer none, .pointer none => some true
      | .pointer _, .pointer none, .pointer (some _) => some false
      | .pointer _, .pointer (some _), .pointer none => some false
      | .pointer el, .pointer (some ⟨k, o, none⟩), .pointer (some ⟨j, p, none⟩) => match E.info el with
        | some i => bif Nat.beq i.size 0 then none else bif Nat.beq k j then some (Nat.beq o p) else none
        | none => none
      | .interface _, .nilIface, .nilIface => some true
      | .interface _, .nilIface, .iface _ _ => some false
      | .interface _, .iface _ _, .nilIface => some false
      | .interface _, .iface tx vx, .iface ty vy => bif Nat.beq tx ty then (match E.info tx with
        | some i => bif i.comparable then aeq E Q d tx vx vy else none
        | none => none) else some false
      | .struct fs, .agg xs, .agg ys => bif Q.ok t then aeqFields E (aeq E Q d) xs.toList ys.toList fs.toList else none
      | .array n el, .agg xs, .agg ys => match E.info el with
        | some i => aeqItems E (aeq E Q d) el i.size xs.toList ys.toList (List.range n)
        | none => none
      | .slice _, .slice none _ _, .slice none _ _ => some true
      | .slice _, .slice none _ _, .slice (some _) _ _ => some false
      | .slice _, .slice (some _) _ _, .slice none _ _ => some false
      | .map _ _, .map none, .map none => some true
      | .map _ _, .map none, .map (some _) => some false
      | .map _ _, .map (some _), .map none => some false
      | .func _ _ _, .nilFunc, .nilFunc => some true
      | .func _ _ _, .nilFunc, .func _ _ _ => some false
      | .func _ _ _, .func _ _ _, .nilFunc => some false
      | _, _, _ => none
theorem beqBytes_self (a : ByteArray) : (a == a) = true := by rw [beqBytes_eq]; unfold beqBytes; simp
theorem aeqFields_ok (hE : E.Ok P) {eq : Nat → Value → Value → Option Bool} {D : Nat} (heq : ∀ t x x' y y' b, VR μ x x' → VR μ y y' → eq t x y = some b → (Op.equalIn D t x' y').run P w = .ok b w) {xs xs' ys ys' : Array Value} (hx : AR μ xs xs') (hy : AR μ ys ys') :
    ∀ (fs : List Field) (b : Bool), aeqFields E eq xs.toList ys.toList fs = some b → (Op.eqFields D xs' ys' fs).run P w = .ok b w
  | [], b, e => by cases e; rfl
  | f :: fs, b, e => by
    simp only [aeqFields] at e
    cases hn : (f.name == "_") with
    | true =>
      rw [hn, cond_true] at e
      simp only [Op.eqFields]
      rw [if_neg (by simpa using hn)]
      exact aeqFields_ok hE heq hx hy fs b e
    | false =>
      rw [hn, cond_false] at e
      split at e
      · rename_i a c ha hc
        obtain ⟨a', r1, v1⟩ := apart_ok hE hx ha w
        obtain ⟨c', r2, v2⟩ := apart_ok hE hy hc w
        simp only [Op.eqFields]
        rw [if_pos (by simpa using hn)]
        split at e
        · rename_i he
          simp only [Sem.run_bind, r1, r2, Result.andThen_ok, heq _ _ _ _ _ _ v1 v2 he, Bool.not_true, Bool.false_eq_true, if_false]
          exact aeqFields_ok hE heq hx hy fs b e
        · rename_i he
          cases e
          simp only [Sem.run_bind, r1, r2, Result.andThen_ok, heq _ _ _ _ _ _ v1 v2 he, Bool.not_false, if_true, Sem.run_pure]
        · cases e
      · cases e
theorem aeqItems_ok (hE : E.Ok P) {eq : Nat → Value → Value → Option Bool} {D : Nat} (heq : ∀ t x x' y y' b, VR μ x x' → VR μ y y' → eq t x y = some b → (Op.equalIn D t x' y').run P w = .ok b w) {el sz : Nat} {xs xs' ys ys' : Array Value} (hx : AR μ xs xs') (hy : AR μ ys ys') :
    ∀ (l : List Nat) (b : Bool), aeqItems E eq el sz xs.toList ys.toList l = some b → (Op.eqItems D el sz xs' ys' l).run P w = .ok b w
  | [], b, e => by cases e; rfl
  | i :: l, b, e => by
    simp only [aeqItems] at e
    split at e
    · rename_i a c ha hc
      obtain ⟨a', r1, v1⟩ := apart_ok hE hx ha w
      obtain ⟨c', r2, v2⟩ := apart_ok hE hy hc w
      simp only [Op.eqItems]
      split at e
      · rename_i he
        simp only [Sem.run_bind, r1, r2, Result.andThen_ok, heq _ _ _ _ _ _ v1 v2 he, Bool.not_true, Bool.false_eq_true, if_false]
        first | exact aeqItems_ok hE heq hx hy l b e | (simp only [if_true]; exact aeqItems_ok hE heq hx hy l b e)
      · rename_i he
        cases e
        simp only [Sem.run_bind, r1, r2, Result.andThen_ok, heq _ _ _ _ _ _ v1 v2 he, Bool.not_false, if_true, Sem.run_pure]
        first | done | rfl | simp
      · cases e
    · cases e
set_option maxHeartbeats 2000000 in
theorem aeq_ok (hE : E.Ok P) (hQ : Q.Ok P) (h : Rel μ H w0 w) : ∀ (d t : Nat) (x x' y y' : Value) (b : Bool) (D : Nat), d ≤ D → VR μ x x' → VR μ y y' → aeq E Q d t x y = some b → (Op.equalIn D t x' y').run P w = .ok b w
  | 0, _, _, _, _, _, _, _, _, _, _, e => by simp [aeq] at e
  | d + 1, t, x, x', y, y', b, 0, hD, _, _, _ => by omega
  | d + 1, t, x, x', y, y', b, D + 1, hD, hx, hy, e => by
    have ih := aeq_ok hE hQ h d
    simp only [aeq] at e
    split at e
    · cases e
    · rename_i ds hu
      have hu' := hE.und _ _ hu
      split at e
      · cases hx; cases hy; cases e
        simp only [Op.equalIn, Sem.run_bind, run_und hE hu, Result.andThen_ok, Sem.run_pure]
      · cases hx; cases hy
        split at e
        · rename_i hk
          cases e
          simp only [Op.equalIn, Sem.run_bind, run_und hE hu, Result.andThen_ok, if_pos hk, Sem.run_pure]
        · cases e
      · cases hx; cases hy; cases e
        simp only [Op.equalIn, Sem.run_bind, run_und hE hu, Result.andThen_ok, Sem.run_pure, beqBytes_eq]
      · cases hx; cases hy
        rename_i _ k _ j
        cases hk : Nat.beq k j with
        | false => rw [hk] at e; cases e
        | true =>
          rw [hk, cond_true] at e
          cases e
          obtain rfl := Nat.eq_of_beq_eq_true hk
          simp only [Op.equalIn, Sem.run_bind, run_und hE hu, Result.andThen_ok, if_true, Sem.run_pure, beq_self_eq_true]
      · cases hx; cases hy
        rename_i _ k _ j
        cases hk : Nat.beq k j with
        | false => rw [hk] at e; cases e
        | true =>
          rw [hk, cond_true] at e
          cases e
          obtain rfl := Nat.eq_of_beq_eq_true hk
          simp only [Op.equalIn, Sem.run_bind, run_und hE hu, Result.andThen_ok, Sem.run_pure, beqBytes_self]
      · cases hx; cases hy
        rename_i _ k _ j
        cases hk : Nat.beq k j with
        | false => rw [hk] at e; cases e
        | true =>
          rw [hk, cond_true] at e
          cases e
          obtain rfl := Nat.eq_of_beq_eq_true hk
          simp only [Op.equalIn, Sem.run_bind, run_und hE hu, Result.andThen_ok, Sem.run_pure, beq_self_eq_true]
      · cases hx; cases hy
        obtain ⟨h1, h2⟩ := hE.teqI _ _ _ _ e
        simp only [Op.equalIn, Sem.run_bind, run_und hE hu, Result.andThen_ok, if_pos h1, Sem.run_pure, h2]
      · cases hx; cases hy
        have h2 := hE.teqS _ _ _ e
        simp only [Op.equalIn, Sem.run_bind, run_und hE hu, Result.andThen_ok, Sem.run_pure, h2]
      · cases hx; cases hy
        have h2 := hE.teqB _ _ _ e
        simp only [Op.equalIn, Sem.run_bind, run_und hE hu, Result.andThen_ok, Sem.run_pure, h2]
      · cases hx; cases hy; cases e
        simp only [Op.equalIn, Sem.run_bind, run_und hE hu, Result.andThen_ok, Sem.run_pure]; rfl
      · cases hx; cases hy; cases e
        simp only [Op.equalIn, Sem.run_bind, run_und hE hu, Result.andThen_ok, Sem.run_pure]; rfl
      · cases hx; cases hy; cases e
        simp only [Op.equalIn, Sem.run_bind, run_und hE hu, Result.andThen_ok, Sem.run_pure]
      · split at e
        · rename_i i hi
          cases hz : Nat.beq i.size 0 with
          | true => rw [hz] at e; cases e
          | false =>
            rw [hz, cond_false] at e
            have hne : i.size ≠ 0 := fun e' => by rw [e'] at hz; cases hz
            cases hx with
            | @ptr k g s o hm =>
              cases hy with
              | @ptr j g2 s2 p hm2 =>
                rename_i el k o j p _
                cases hk : Nat.beq k j with
                | false => rw [hk] at e; cases e
                | true =>
                  rw [hk, cond_true] at e
                  cases e
                  have := Nat.eq_of_beq_eq_true hk
                  subst this
                  rw [hm] at hm2
                  cases hm2
                  simp only [Op.equalIn, Sem.run_bind, run_und hE hu, Result.andThen_ok, run_size hE hi]
                  rw [if_pos hne]
                  simp only [sameAddr, beq_self_eq_true, if_true, Sem.run_pure]
                  congr 1
                  cases hb : Nat.beq o p with
                  | true => have := Nat.eq_of_beq_eq_true hb; subst this; simp
                  | false =>
                    have : o ≠ p := fun e' => by subst e'; simp at hb
                    rw [beq_eq_false_iff_ne]
                    intro e'
                    injection e' with _ e'
                    exact this e'
        · cases e
      · cases hx; cases hy; cases e
        simp only [Op.equalIn, Sem.run_bind, run_und hE hu, Result.andThen_ok, Sem.run_pure]
      · cases hx; cases hy; cases e
        simp only [Op.equalIn, Sem.run_bind, run_und hE hu, Result.andThen_ok, Sem.run_pure]
      · cases hx; cases hy; cases e
        simp only [Op.equalIn, Sem.run_bind, run_und hE hu, Result.andThen_ok, Sem.run_pure]
      · rename_i tx vx ty vy
        cases hx with
        | iface t1 hvx =>
          cases hy with
          | iface t2 hvy =>
            cases ht : Nat.beq tx ty with
            | false =>
              rw [ht, cond_false] at e
              cases e
              have : tx ≠ ty := fun e' => by subst e'; simp at ht
              simp only [Op.equalIn, Sem.run_bind, run_und hE hu, Result.andThen_ok]
              rw [if_pos this]; rfl
            | true =>
              rw [ht, cond_true] at e
              have := Nat.eq_of_beq_eq_true ht
              subst this
              split at e
              · rename_i i hi
                cases hc : i.comparable with
                | false => rw [hc] at e; cases e
                | true =>
                  rw [hc, cond_true] at e
                  simp only [Op.equalIn, Sem.run_bind, run_und hE hu, Result.andThen_ok]
                  rw [if_neg (by simp)]
                  simp only [Sem.run_bind, run_info hE hi, Result.andThen_ok, hc, Bool.not_true, Bool.false_eq_true, if_false]
                  exact ih _ _ _ _ _ _ D (by omega) hvx hvy e
              · cases e
      · rename_i fs xs ys
        cases ho : Q.ok t with
        | false => rw [ho] at e; cases e
        | true =>
          rw [ho, cond_true] at e
          have hf : P.fieldsOf t = fs := by simp [Program.fieldsOf, hu']
          cases hx with
          | agg h1 h2 =>
            cases hy with
            | agg h3 h4 =>
              rw [run_equalIn_struct w D t _ _ (by rw [hf]; exact hu') (hQ.held t ho), hf]
              exact aeqFields_ok hE (fun t x x' y y' b hx hy e => ih t x x' y y' b D (by omega) hx hy e) ⟨h1, h2⟩ ⟨h3, h4⟩ fs.toList b e
      · split at e
        · rename_i i hi
          cases hx with
          | agg h1 h2 =>
            cases hy with
            | agg h3 h4 =>
              have hsz := congrArg (fun x => ((x.map TypeInfo.size).getD 0)) (hE.info _ _ hi)
              have hsz : P.cellsOf _ = i.size := hsz
              rw [run_equalIn_array w D _ _ hu' (hE.info _ _ hi), hsz]
              exact aeqItems_ok hE (fun t x x' y y' b hx hy e => ih t x x' y y' b D (by omega) hx hy e) ⟨h1, h2⟩ ⟨h3, h4⟩ _ b e
        · cases e
      · cases hx; cases hy; cases e
        simp only [Op.equalIn, Sem.run_bind, run_und hE hu, Result.andThen_ok, Sem.run_pure]; rfl
      · cases hx; cases e
        cases hy <;> (simp only [Op.equalIn, Sem.run_bind, run_und hE hu, Result.andThen_ok, Sem.run_pure]; rfl)
      · cases hy; cases e
        cases hx <;> simp only [Op.equalIn, Sem.run_bind, run_und hE hu, Result.andThen_ok, Sem.run_pure]
      · cases hx; cases hy; cases e
        simp only [Op.equalIn, Sem.run_bind, run_und hE hu, Result.andThen_ok, Sem.run_pure]; rfl
      · cases hx; cases hy; cases e
        simp only [Op.equalIn, Sem.run_bind, run_und hE hu, Result.andThen_ok, Sem.run_pure]; rfl
      · cases hx; cases hy; cases e
        simp only [Op.equalIn, Sem.run_bind, run_und hE hu, Result.andThen_ok, Sem.run_pure]
      · cases hx; cases hy; cases e
        simp only [Op.equalIn, Sem.run_bind, run_und hE hu, Result.andThen_ok, Sem.run_pure]
      · cases hx; cases e
        cases hy <;> simp only [Op.equalIn, Sem.run_bind, run_und hE hu, Result.andThen_ok, Sem.run_pure]
      · cases hy; cases e
        cases hx <;> simp only [Op.equalIn, Sem.run_bind, run_und hE hu, Result.andThen_ok, Sem.run_pure]
      · cases e
end
end AM
end Go.Proofs.YtdmbppgogdkpdaaGreatDoor
