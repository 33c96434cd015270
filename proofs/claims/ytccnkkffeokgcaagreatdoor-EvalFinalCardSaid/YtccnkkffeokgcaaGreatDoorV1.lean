/-
  An abstract machine: a trie; abstract values and the values they stand for. No condition.
-/
import Derived.WalkKit
import Derived.WalkSpells
namespace Go.Proofs.YtccnkkffeokgcaaGreatDoor
namespace AM
open Go.RowKit

/-- A map from numbers. -/
inductive Tri (α : Type) where
  | nil
  | node (v : Option α) (l r : Tri α)
def Tri.get {α : Type} : Tri α → Nat → Option α
  | .nil, _ => none
  | .node v l r, k => bif Nat.beq k 0 then v else bif Nat.beq (k % 2) 1 then l.get (k / 2) else r.get (k / 2 - 1)
def Tri.set {α : Type} : Nat → Tri α → Nat → α → Tri α
  | 0, t, _, _ => t
  | f + 1, .nil, k, x => bif Nat.beq k 0 then .node (some x) .nil .nil else
      bif Nat.beq (k % 2) 1 then .node none (Tri.set f .nil (k / 2) x) .nil else .node none .nil (Tri.set f .nil (k / 2 - 1) x)
  | f + 1, .node v l r, k, x => bif Nat.beq k 0 then .node (some x) l r else
      bif Nat.beq (k % 2) 1 then .node v (Tri.set f l (k / 2) x) r else .node v l (Tri.set f r (k / 2 - 1) x)
theorem beq_ne {a b : Nat} (h : ¬ a = b) : Nat.beq a b = false := by
  cases e : Nat.beq a b
  · rfl
  · exact absurd (Nat.eq_of_beq_eq_true e) h
theorem Tri.get_node {α : Type} (v : Option α) (l r : Tri α) (k : Nat) : (Tri.node v l r).get k = if k = 0 then v else if k % 2 = 1 then l.get (k / 2) else r.get (k / 2 - 1) := by
  rw [Tri.get]
  by_cases h : k = 0
  · subst h; rfl
  · rw [beq_ne h, cond_false, if_neg h]
    by_cases h1 : k % 2 = 1
    · rw [h1, if_pos rfl]; rfl
    · rw [beq_ne h1, cond_false, if_neg h1]
theorem Tri.set_node {α : Type} (f : Nat) (v : Option α) (l r : Tri α) (k : Nat) (x : α) : Tri.set (f + 1) (.node v l r) k x =
    if k = 0 then .node (some x) l r else if k % 2 = 1 then .node v (Tri.set f l (k / 2) x) r else .node v l (Tri.set f r (k / 2 - 1) x) := by
  rw [Tri.set]
  by_cases h : k = 0
  · subst h; rfl
  · rw [beq_ne h, cond_false, if_neg h]
    by_cases h1 : k % 2 = 1
    · rw [h1, if_pos rfl]; rfl
    · rw [beq_ne h1, cond_false, if_neg h1]
theorem Tri.get_nil_node {α : Type} (j : Nat) : (Tri.node (none : Option α) .nil .nil).get j = none := by
  rw [Tri.get_node]; split
  · rfl
  · split <;> rfl
theorem Tri.set_nil {α : Type} (f k : Nat) (x : α) : Tri.set (f + 1) .nil k x = Tri.set (f + 1) (.node none .nil .nil) k x := by
  rw [Tri.set, Tri.set]
theorem Tri.get_set {α : Type} : ∀ (f : Nat) (t : Tri α) (k j : Nat) (x : α), k + 1 < 2 ^ f → (Tri.set f t k x).get j = if j = k then some x else t.get j
  | 0, t, k, j, x, h => by
    simp at h
  | f + 1, t, k, j, x, h => by
    have key : ∀ (v : Option α) (l r : Tri α), (Tri.set (f + 1) (.node v l r) k x).get j = if j = k then some x else (Tri.node v l r).get j := by
      intro v l r
      rw [Tri.set_node]
      by_cases hk : k = 0
      · subst hk
        rw [if_pos rfl, Tri.get_node, Tri.get_node]
        by_cases hj : j = 0 <;> simp [hj]
      · rw [if_neg hk]
        have hp : 2 ^ (f + 1) = 2 ^ f * 2 := Nat.pow_succ 2 f
        by_cases hk1 : k % 2 = 1
        · rw [if_pos hk1, Tri.get_node, Tri.get_node, Tri.get_set f l (k / 2) (j / 2) x (by omega)]
          by_cases hj : j = 0
          · rw [if_pos hj, if_pos hj, if_neg (by omega)]
          · rw [if_neg hj, if_neg hj]
            by_cases hj1 : j % 2 = 1
            · rw [if_pos hj1, if_pos hj1]
              by_cases he : j = k
              · rw [if_pos he, if_pos (by rw [he])]
              · rw [if_neg he, if_neg (by omega)]
            · rw [if_neg hj1, if_neg hj1, if_neg (by rintro rfl; exact hj1 hk1)]
        · rw [if_neg hk1, Tri.get_node, Tri.get_node, Tri.get_set f r (k / 2 - 1) (j / 2 - 1) x (by omega)]
          by_cases hj : j = 0
          · rw [if_pos hj, if_pos hj, if_neg (by omega)]
          · rw [if_neg hj, if_neg hj]
            by_cases hj1 : j % 2 = 1
            · rw [if_pos hj1, if_pos hj1, if_neg (by rintro rfl; exact hk1 hj1)]
            · rw [if_neg hj1, if_neg hj1]
              by_cases he : j = k
              · rw [if_pos he, if_pos (by rw [he])]
              · rw [if_neg he, if_neg (by omega)]
    cases t with
    | node v l r => exact key v l r
    | nil =>
      rw [Tri.set_nil, key none .nil .nil, Tri.get_nil_node]
      rfl

/-- The numbers below stand for themselves: variables of packages. -/
def glob : Nat := 16
/-- Where an abstract block lies, and how many cells lie there. -/
structure Mp where
  f : Nat → Option (Nat × Nat)
  N : Nat
  wf : ∀ k, N ≤ k → f k = none
  gl : ∀ k, k < glob → ∃ s, f k = some (k, s)
theorem Mp.glob_lt (μ : Mp) {k : Nat} (h : μ.f k = none) : ¬ k < glob := fun hk => by
  obtain ⟨s, e⟩ := μ.gl k hk
  rw [h] at e; cases e
instance : CoeFun Mp (fun _ => Nat → Option (Nat × Nat)) := ⟨Mp.f⟩
/-- A capacity e * big + c: of elements of e cells, of which no more is known than that it is at least c. -/
def big : Nat := 18446744073709551616
inductive VR (μ : Mp) : Value → Value → Prop where
  | bool (b : Bool) : VR μ (.bool b) (.bool b)
  | int (k : IntKind) (n : Int) : VR μ (.int k n) (.int k n)
  | string (s : ByteArray) : VR μ (.string s) (.string s)
  | pnil : VR μ (.pointer none) (.pointer none)
  | ptr {k g s : Nat} (o : Nat) : μ k = some (g, s) → VR μ (.pointer (some ⟨k, o, none⟩)) (.pointer (some ⟨g, o, none⟩))
  | snil (n c : Nat) : VR μ (.slice none n c) (.slice none n c)
  | sl {k g s : Nat} (o n c : Nat) : μ k = some (g, s) → c < big → VR μ (.slice (some ⟨k, o, none⟩) n c) (.slice (some ⟨g, o, none⟩) n c)
  | slx {k g s : Nat} (o n c c' e : Nat) : μ k = some (g, s) → o + c' * e = s → 0 < e → n ≤ c → c ≤ c' → c < big → VR μ (.slice (some ⟨k, o, none⟩) n (e * big + c)) (.slice (some ⟨g, o, none⟩) n c')
  | mnil : VR μ (.map none) (.map none)
  | map {k g s : Nat} : μ k = some (g, s) → VR μ (.map (some k)) (.map (some g))
  | nilFunc : VR μ .nilFunc .nilFunc
  | nilIface : VR μ .nilIface .nilIface
  | iface (t : TypeId) {v v' : Value} : VR μ v v' → VR μ (.iface t v) (.iface t v')
  | func (f : FuncId) {a a' c c' : Array Value} : a.size = a'.size → (∀ (i : Nat) (v v' : Value), a[i]? = some v → a'[i]? = some v' → VR μ v v') →
      c.size = c'.size → (∀ (i : Nat) (v v' : Value), c[i]? = some v → c'[i]? = some v' → VR μ v v') → VR μ (.func (.func f) a c) (.func (.func f) a' c')
  | yield {k g s : Nat} : μ k = some (g, s) → VR μ (.func (.yield k) #[] #[]) (.func (.yield g) #[] #[])
  | agg {c c' : Array Value} : c.size = c'.size → (∀ (i : Nat) (v v' : Value), c[i]? = some v → c'[i]? = some v' → VR μ v v') → VR μ (.agg c) (.agg c')
  | unkI (k : IntKind) (n : Int) : VR μ (.chan none) (.int k n)
  | unkS (s : ByteArray) : VR μ (.chan (some 0)) (.string s)
  | unkN (n : Int) : VR μ (.chan (some 1)) (.int .i64 n)
  | unkB (b : Bool) : VR μ (.chan (some 2)) (.bool b)
  | tuple {c c' : Array Value} : c.size = c'.size → (∀ (i : Nat) (v v' : Value), c[i]? = some v → c'[i]? = some v' → VR μ v v') → VR μ (.tuple c) (.tuple c')
/-- More is known. -/
def Mp.sub (μ ν : Mp) : Prop := ∀ k l, μ k = some l → ν k = some l
/-- More is known, of new blocks alone. -/
def Mp.le (μ ν : Mp) : Prop := μ.N ≤ ν.N ∧ ∀ k, k < μ.N → ν k = μ k
theorem Mp.le.sub {μ ν : Mp} (h : μ.le ν) : μ.sub ν := fun k l e => by
  rcases Nat.lt_or_ge k μ.N with hk | hk
  · rw [h.2 k hk]; exact e
  · rw [μ.wf k hk] at e; cases e
theorem Mp.sub.refl (μ : Mp) : μ.sub μ := fun _ _ h => h
theorem Mp.sub.trans {μ ν ξ : Mp} (h : μ.sub ν) (k : ν.sub ξ) : μ.sub ξ := fun _ _ e => k _ _ (h _ _ e)
theorem Mp.le.refl (μ : Mp) : μ.le μ := ⟨Nat.le_refl _, fun _ _ => rfl⟩
theorem Mp.le.trans {μ ν ξ : Mp} (h : μ.le ν) (k : ν.le ξ) : μ.le ξ := ⟨Nat.le_trans h.1 k.1, fun j hj => (k.2 j (Nat.lt_of_lt_of_le hj h.1)).trans (h.2 j hj)⟩
theorem VR.monoS {μ ν : Mp} (h : μ.sub ν) {v v' : Value} (r : VR μ v v') : VR ν v v' := by
  induction r with
  | bool b => exact .bool b
  | int k n => exact .int k n
  | string s => exact .string s
  | pnil => exact .pnil
  | ptr o e => exact .ptr o (h _ _ e)
  | snil n c => exact .snil n c
  | sl o n c e hc => exact .sl o n c (h _ _ e) hc
  | slx o n c c' e he a b d f i => exact .slx o n c c' e (h _ _ he) a b d f i
  | mnil => exact .mnil
  | map e => exact .map (h _ _ e)
  | nilFunc => exact .nilFunc
  | nilIface => exact .nilIface
  | iface t _ ih => exact .iface t ih
  | func f ha _ hc _ ih1 ih2 => exact .func f ha ih1 hc ih2
  | yield e => exact .yield (h _ _ e)
  | agg ha _ ih => exact .agg ha ih
  | tuple ha _ ih => exact .tuple ha ih
  | unkI k n => exact .unkI k n
  | unkS s => exact .unkS s
  | unkN n => exact .unkN n
  | unkB b => exact .unkB b
theorem VR.mono {μ ν : Mp} (h : μ.le ν) {v v' : Value} (r : VR μ v v') : VR ν v v' := r.monoS h.sub
/-- Rows of values. -/
def AR (μ : Mp) (a a' : Array Value) : Prop := a.size = a'.size ∧ ∀ (i : Nat) (v v' : Value), a[i]? = some v → a'[i]? = some v' → VR μ v v'
theorem AR.mono {μ ν : Mp} (h : μ.le ν) {a a' : Array Value} (r : AR μ a a') : AR ν a a' := ⟨r.1, fun i v v' h1 h2 => (r.2 i v v' h1 h2).mono h⟩
theorem AR.get {μ : Mp} {a a' : Array Value} (r : AR μ a a') {i : Nat} {v : Value} (h : a[i]? = some v) : ∃ v', a'[i]? = some v' ∧ VR μ v v' := by
  obtain ⟨hi, _⟩ := Array.getElem?_eq_some_iff.1 h
  have hi' : i < a'.size := by rw [← r.1]; exact hi
  exact ⟨a'[i], Array.getElem?_eq_getElem hi', r.2 i _ _ h (Array.getElem?_eq_getElem hi')⟩
/-- Lists of values. -/
def LR (μ : Mp) (l l' : List Value) : Prop := l.length = l'.length ∧ ∀ (i : Nat) (v v' : Value), l[i]? = some v → l'[i]? = some v' → VR μ v v'
theorem LR.mono {μ ν : Mp} (h : μ.le ν) {a a' : List Value} (r : LR μ a a') : LR ν a a' := ⟨r.1, fun i v v' h1 h2 => (r.2 i v v' h1 h2).mono h⟩
theorem LR.nil (μ : Mp) : LR μ [] [] := ⟨rfl, by simp⟩
theorem LR.cons {μ : Mp} {v v' : Value} {l l' : List Value} (h : VR μ v v') (r : LR μ l l') : LR μ (v :: l) (v' :: l') := by
  refine ⟨by simp [r.1], fun i x x' h1 h2 => ?_⟩
  cases i with
  | zero => simp at h1 h2; subst h1; subst h2; exact h
  | succ i => simp at h1 h2; exact r.2 i x x' h1 h2
theorem LR.inv {μ : Mp} {v : Value} {l m : List Value} (r : LR μ (v :: l) m) : ∃ v' l', m = v' :: l' ∧ VR μ v v' ∧ LR μ l l' := by
  cases m with
  | nil => have := r.1; simp at this
  | cons v' l' =>
    refine ⟨v', l', rfl, r.2 0 v v' rfl rfl, by have := r.1; simpa using this, fun i x x' h1 h2 => r.2 (i + 1) x x' (by simpa using h1) (by simpa using h2)⟩
theorem LR.inv_nil {μ : Mp} {m : List Value} (r : LR μ [] m) : m = [] := by
  have := r.1; simp at this; exact List.eq_nil_of_length_eq_zero this.symm
theorem LR.append {μ : Mp} {l l' m m' : List Value} (r : LR μ l l') (s : LR μ m m') : LR μ (l ++ m) (l' ++ m') := by
  induction l generalizing l' with
  | nil => rw [r.inv_nil]; exact s
  | cons v l ih =>
    obtain ⟨v', k, rfl, hv, hk⟩ := r.inv
    exact .cons hv (ih hk)
theorem AR.toList {μ : Mp} {a a' : Array Value} (r : AR μ a a') : LR μ a.toList a'.toList := ⟨by simpa using r.1, fun i v v' h1 h2 => r.2 i v v' (by simpa using h1) (by simpa using h2)⟩
theorem LR.toArray {μ : Mp} {a a' : List Value} (r : LR μ a a') : AR μ a.toArray a'.toArray := ⟨by simpa using r.1, fun i v v' h1 h2 => r.2 i v v' (by simpa using h1) (by simpa using h2)⟩
end AM
end Go.Proofs.YtccnkkffeokgcaaGreatDoor
