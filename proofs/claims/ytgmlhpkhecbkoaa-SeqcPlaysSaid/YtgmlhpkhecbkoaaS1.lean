/-
  Shared axes (seqc), plainly: what hangs on an id, who is there, what an insertion tells. No condition.
-/
import Derived.Test.YtgmlhpkhecbkoaaK1
namespace Go.Proofs.Ytgmlhpkhecbkoaa

/-- a stands ahead of b: by N, then by author. -/
def bef (a b : Id) : Bool := decide (a.2 < b.2) || (a.2 == b.2 && decide (a.1 < b.1))
theorem bef_iff {a b : Id} : bef a b = true ↔ a.2 < b.2 ∨ (a.2 = b.2 ∧ a.1 < b.1) := by simp [bef]
theorem bef_trans {a b c : Id} (h1 : bef a b = true) (h2 : bef b c = true) : bef a c = true := by rw [bef_iff] at *; omega
theorem bef_irr (a : Id) : bef a a = false := by
  cases h : bef a a with
  | false => rfl
  | true => rw [bef_iff] at h; omega
theorem bef_total {a b : Id} (h : a ≠ b) : bef a b = true ∨ bef b a = true := by
  rw [bef_iff, bef_iff]
  by_cases h2 : a.2 = b.2
  · have : a.1 ≠ b.1 := fun h1 => h (Prod.ext h1 h2)
    omega
  · omega
def scan (z : Id) : List Id → Nat
  | [] => 0
  | x :: l => if bef z x then scan z l + 1 else 0
theorem scan_le (z : Id) (l : List Id) : scan z l ≤ l.length := by
  induction l with
  | nil => simp [scan]
  | cons x l ih => simp only [scan]; split <;> simp <;> omega
theorem scan_spec (z : Id) (l : List Id) (k : Nat) (h : ∀ j, j < k → ∃ x, l[j]? = some x ∧ bef z x = true) (he : k = l.length ∨ ∃ x, l[k]? = some x ∧ bef z x = false) : scan z l = k := by
  induction l generalizing k with
  | nil =>
    cases k with
    | zero => rfl
    | succ k => obtain ⟨x, hx, _⟩ := h 0 (by omega); simp at hx
  | cons y l ih =>
    cases k with
    | zero =>
      rcases he with he | ⟨x, hx, hb⟩
      · simp at he
      · have : y = x := by simpa using hx
        subst this
        simp [scan, hb]
    | succ k =>
      obtain ⟨x, hx, hb⟩ := h 0 (by omega)
      have : y = x := by simpa using hx
      subst this
      simp only [scan, hb, if_true]
      rw [ih k (fun j hj => by simpa using h (j + 1) (by omega)) (by simpa using he)]
def hangAdd (l : List Id) (z : Id) : List Id := putAt l (scan z l) z
theorem length_hangAdd (l : List Id) (z : Id) : (hangAdd l z).length = l.length + 1 := length_putAt _ _ _
theorem mem_hangAdd (l : List Id) (z x : Id) : x ∈ hangAdd l z ↔ x = z ∨ x ∈ l := by
  unfold hangAdd putAt
  have : x ∈ l ↔ x ∈ l.take (scan z l) ∨ x ∈ l.drop (scan z l) := by rw [← List.mem_append, List.take_append_drop]
  rw [this]
  simp only [List.mem_append, List.mem_singleton]
  constructor
  · rintro ((h | h) | h)
    · exact .inr (.inl h)
    · exact .inl h
    · exact .inr (.inr h)
  · rintro (h | h | h)
    · exact .inl (.inr h)
    · exact .inl (.inl h)
    · exact .inr h
theorem snocInd {α : Type} {P : List α → Prop} (h0 : P []) (h1 : ∀ l x, P l → P (l ++ [x])) (l : List α) : P l := by
  have key : ∀ r : List α, P r.reverse := by
    intro r
    induction r with
    | nil => exact h0
    | cons x r ih => rw [List.reverse_cons]; exact h1 _ _ ih
  have := key l.reverse
  rwa [List.reverse_reverse] at this
/-- What hangs on an id, the greatest first. -/
def kids (puts : List (Id × Id)) (k : Id) : List Id := puts.foldl (fun l p => if p.1 = k then hangAdd l p.2 else l) []
theorem kids_nil (k : Id) : kids [] k = [] := rfl
theorem kids_snoc (puts : List (Id × Id)) (p : Id × Id) (k : Id) : kids (puts ++ [p]) k = if p.1 = k then hangAdd (kids puts k) p.2 else kids puts k := by
  unfold kids; rw [List.foldl_append]; rfl
theorem mem_kids (puts : List (Id × Id)) (k x : Id) : x ∈ kids puts k ↔ (k, x) ∈ puts := by
  revert x
  refine snocInd (P := fun puts => ∀ x, x ∈ kids puts k ↔ (k, x) ∈ puts) (by simp [kids_nil]) ?_ puts
  · intro puts p ih x
    rw [kids_snoc]
    obtain ⟨a, b⟩ := p
    split
    · rename_i h
      dsimp only at h
      subst h
      rw [mem_hangAdd, ih]
      simp only [List.mem_append, List.mem_singleton, Prod.mk.injEq, true_and]
      exact Or.comm
    · rename_i h
      dsimp only at h
      rw [ih]
      simp only [List.mem_append, List.mem_singleton, Prod.mk.injEq]
      constructor
      · exact .inl
      · rintro (h' | ⟨h', _⟩)
        · exact h'
        · exact absurd h'.symm h
theorem kids_le (puts : List (Id × Id)) (k : Id) : (kids puts k).length ≤ puts.length := by
  refine snocInd (P := fun puts => (kids puts k).length ≤ puts.length) (by simp [kids_nil]) ?_ puts
  intro puts p ih
  rw [kids_snoc]
  split
  · rw [length_hangAdd]; simp; omega
  · simp; omega
/-- Who is there. -/
def has (first : List Id) (puts : List (Id × Id)) (z : Id) : Bool := decide (z ∈ first) || decide (z ∈ puts.map Prod.snd)
theorem has_iff {first : List Id} {puts : List (Id × Id)} {z : Id} : has first puts z = true ↔ z ∈ first ∨ z ∈ puts.map Prod.snd := by simp [has]
/-- What Insert tells. -/
def insS (first : List Id) (puts : List (Id × Id)) (b z : Id) : Int :=
  if z = (0, 0) then 1 else if has first puts z then 4 else if b ≠ (0, 0) ∧ has first puts b = false then 3 else if 1000 ≤ first.length + puts.length then 5 else 0
def insPuts (first : List Id) (puts : List (Id × Id)) (b z : Id) : List (Id × Id) := if insS first puts b z = 0 then puts ++ [(b, z)] else puts
/-- What holds of every shared axis. -/
structure Wf (first : List Id) (puts : List (Id × Id)) : Prop where
  nd : first.Nodup
  nz : (0, 0) ∉ first
  len : first.length + puts.length ≤ 1000
  pnd : (puts.map Prod.snd).Nodup
  pnz : (0, 0) ∉ puts.map Prod.snd
  dis : ∀ z ∈ puts.map Prod.snd, z ∉ first
  beh : ∀ (i : Nat) p, puts[i]? = some p → p.1 = (0, 0) ∨ p.1 ∈ first ∨ p.1 ∈ (puts.take i).map Prod.snd
theorem insS_ok {first : List Id} {puts : List (Id × Id)} {b z : Id} (h : insS first puts b z = 0) : z ≠ (0, 0) ∧ has first puts z = false ∧ (b = (0, 0) ∨ has first puts b = true) ∧ first.length + puts.length < 1000 := by
  unfold insS at h
  split at h
  · cases h
  · rename_i h1
    split at h
    · cases h
    · rename_i h2
      split at h
      · cases h
      · rename_i h3
        split at h
        · cases h
        · rename_i h4
          refine ⟨h1, by simpa using h2, ?_, by omega⟩
          by_cases hb : b = (0, 0)
          · exact .inl hb
          · right
            cases hh : has first puts b with
            | true => rfl
            | false => exact absurd ⟨hb, hh⟩ h3
theorem Wf.put {first : List Id} {puts : List (Id × Id)} (h : Wf first puts) (b z : Id) : Wf first (insPuts first puts b z) := by
  unfold insPuts
  split
  · rename_i h0
    obtain ⟨h1, h2, h3, h4⟩ := insS_ok h0
    have hz : ¬ (z ∈ first ∨ z ∈ puts.map Prod.snd) := fun hh => by rw [← has_iff, h2] at hh; cases hh
    refine ⟨h.nd, h.nz, by simp; omega, ?_, ?_, ?_, ?_⟩
    · rw [List.map_append, List.nodup_append]
      refine ⟨h.pnd, by simp, ?_⟩
      intro a ha c hc e
      have : c = z := by simpa using hc
      subst this; subst e
      exact hz (.inr ha)
    · rw [List.map_append, List.mem_append]
      rintro (h' | h')
      · exact h.pnz h'
      · have : (0, 0) = z := by simpa using h'
        exact h1 this.symm
    · intro y hy
      rw [List.map_append, List.mem_append] at hy
      rcases hy with hy | hy
      · exact h.dis y hy
      · have : y = z := by simpa using hy
        subst this
        exact fun hf => hz (.inl hf)
    · intro i p hp
      rcases Nat.lt_or_ge i puts.length with hi | hi
      · rw [List.getElem?_append_left hi] at hp
        have := h.beh i p hp
        rwa [List.take_append_of_le_length (by omega)]
      · rw [List.getElem?_append_right hi] at hp
        have hi' : i = puts.length := by
          have := (List.getElem?_eq_some_iff.1 hp).1
          simp at this; omega
        subst hi'
        have : (b, z) = p := by simpa using hp
        subst this
        rw [List.take_left' rfl]
        rcases h3 with h3 | h3
        · exact .inl h3
        · exact .inr (has_iff.1 h3)
  · exact h
theorem Wf.new (first : List Id) (h1 : first.Nodup) (h2 : (0, 0) ∉ first) (h3 : first.length ≤ 1000) : Wf first [] := ⟨h1, h2, by simpa using h3, by simp, by simp, by simp, by simp⟩
end Go.Proofs.Ytgmlhpkhecbkoaa
