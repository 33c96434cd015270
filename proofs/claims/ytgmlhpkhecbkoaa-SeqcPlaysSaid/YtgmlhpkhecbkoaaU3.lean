/-
  SeqcTurned, plainly: the list turned, the list backwards; insertions in a row of one's own. No condition.
-/
import Derived.Test.YtgmlhpkhecbkoaaTC
namespace Go.Proofs.Ytgmlhpkhecbkoaa
open Go.RowKit

theorem newStep_sub (acc : List Id) (z x : Id) (h : x ∈ newStep acc z) : x ∈ acc ∨ x = z := by
  unfold newStep at h
  split at h
  · exact .inl h
  · split at h
    · exact .inl h
    · simpa using h
theorem foldl_sub (ids acc : List Id) (x : Id) (h : x ∈ ids.foldl newStep acc) : x ∈ acc ∨ x ∈ ids := by
  induction ids generalizing acc with
  | nil => exact .inl h
  | cons z r ih =>
    rcases ih (newStep acc z) h with h' | h'
    · rcases newStep_sub acc z x h' with h'' | h''
      · exact .inl h''
      · exact .inr (by simp [h''])
    · exact .inr (by simp [h'])
theorem newL_sub (ids : List Id) (x : Id) (h : x ∈ newL ids) : x ∈ ids := by
  rcases foldl_sub ids [] x h with h' | h'
  · cases h'
  · exact h'
theorem newStep_len (acc : List Id) (z : Id) : (newStep acc z).length ≤ acc.length + 1 := by
  unfold newStep
  split
  · omega
  · split
    · omega
    · simp
theorem foldl_len (ids acc : List Id) : (ids.foldl newStep acc).length ≤ acc.length + ids.length := by
  induction ids generalizing acc with
  | nil => simp
  | cons z r ih =>
    have h1 := ih (newStep acc z)
    have h2 := newStep_len acc z
    simp only [List.foldl_cons, List.length_cons]
    omega
theorem newL_len (ids : List Id) : (newL ids).length ≤ ids.length := by
  have := foldl_len ids []
  simpa [newL] using this
theorem nodup_of_cover {α : Type} [DecidableEq α] : ∀ (a b : List α), a.Nodup → (∀ x ∈ a, x ∈ b) → b.length ≤ a.length → b.Nodup
  | [], b, _, _, h => by
    cases b with
    | nil => simp
    | cons y b => simp at h
  | x :: a, b, hn, hs, h => by
    have hn' := List.nodup_cons.1 hn
    have hx := hs x (by simp)
    have hlen := List.length_erase_of_mem hx
    have hsub : ∀ z ∈ a, z ∈ b.erase x := fun z hz => (List.mem_erase_of_ne (fun e => hn'.1 (by rw [← e]; exact hz))).2 (hs z (by simp [hz]))
    have hle : (b.erase x).length ≤ a.length := by simp at h; omega
    have ih := nodup_of_cover a (b.erase x) hn'.2 hsub hle
    have hxe : x ∉ b.erase x := fun hh => hn'.1 (mem_of_full a (b.erase x) hn'.2 hsub hle x hh)
    exact (List.perm_cons_erase hx).nodup_iff.2 (List.nodup_cons.2 ⟨hxe, ih⟩)

/-- The list turned by so many, the list backwards: the first k of each. -/
def turnedTo (l : List (Id × Id)) (by' : Nat) (k : Nat) : List (Id × Id) := (List.range k).map fun i => l.getD ((i + by') % l.length) ((0, 0), (0, 0))
def backTo (l : List (Id × Id)) (k : Nat) : List (Id × Id) := (List.range k).map fun i => l.getD (l.length - 1 - i) ((0, 0), (0, 0))
theorem turnedTo_succ (l : List (Id × Id)) (by' k : Nat) : turnedTo l by' (k + 1) = turnedTo l by' k ++ [l.getD ((k + by') % l.length) ((0, 0), (0, 0))] := by
  unfold turnedTo; rw [List.range_succ, List.map_append]; rfl
theorem backTo_succ (l : List (Id × Id)) (k : Nat) : backTo l (k + 1) = backTo l k ++ [l.getD (l.length - 1 - k) ((0, 0), (0, 0))] := by
  unfold backTo; rw [List.range_succ, List.map_append]; rfl
theorem getD_mem {α : Type} (l : List α) (i : Nat) (d : α) (h : i < l.length) : l.getD i d ∈ l := by
  rw [List.getD_eq_getElem?_getD, List.getElem?_eq_getElem h]
  exact List.getElem_mem h
theorem turned_mem (l : List (Id × Id)) (by' : Nat) (p : Id × Id) : p ∈ turnedTo l by' l.length ↔ p ∈ l := by
  unfold turnedTo
  rw [List.mem_map]
  constructor
  · rintro ⟨i, hi, rfl⟩
    rw [List.mem_range] at hi
    exact getD_mem _ _ _ (Nat.mod_lt _ (by omega))
  · intro hp
    obtain ⟨j, hj, e⟩ := List.getElem_of_mem hp
    have hm : 0 < l.length := by omega
    have hb : by' % l.length < l.length := Nat.mod_lt _ hm
    refine ⟨(j + (l.length - by' % l.length)) % l.length, List.mem_range.2 (Nat.mod_lt _ hm), ?_⟩
    have : ((j + (l.length - by' % l.length)) % l.length + by') % l.length = j := by
      rw [Nat.mod_add_mod, ← Nat.add_mod_mod, Nat.add_assoc, Nat.sub_add_cancel (by omega), Nat.add_mod_right, Nat.mod_eq_of_lt hj]
    rw [this, List.getD_eq_getElem?_getD, List.getElem?_eq_getElem hj]
    exact e
theorem back_mem (l : List (Id × Id)) (p : Id × Id) : p ∈ backTo l l.length ↔ p ∈ l := by
  unfold backTo
  rw [List.mem_map]
  constructor
  · rintro ⟨i, hi, rfl⟩
    rw [List.mem_range] at hi
    exact getD_mem _ _ _ (by omega)
  · intro hp
    obtain ⟨j, hj, e⟩ := List.getElem_of_mem hp
    refine ⟨l.length - 1 - j, List.mem_range.2 (by omega), ?_⟩
    have : l.length - 1 - (l.length - 1 - j) = j := by omega
    rw [this, List.getD_eq_getElem?_getD, List.getElem?_eq_getElem hj]
    exact e
theorem length_turnedTo (l : List (Id × Id)) (by' k : Nat) : (turnedTo l by' k).length = k := by simp [turnedTo]
theorem length_backTo (l : List (Id × Id)) (k : Nat) : (backTo l k).length = k := by simp [backTo]
theorem snd_nodup {l m : List (Id × Id)} (h : (l.map Prod.snd).Nodup) (hm : ∀ p, p ∈ m ↔ p ∈ l) (hl : m.length = l.length) : (m.map Prod.snd).Nodup := by
  refine nodup_of_cover (l.map Prod.snd) _ h (fun x hx => ?_) (by simp [hl])
  obtain ⟨p, h1, h2⟩ := List.mem_map.1 hx
  exact List.mem_map.2 ⟨p, (hm p).2 h1, h2⟩
/-- All three ways come to one order. -/
theorem turned_order {ids : List Id} {l : List (Id × Id)} (hu : Unlike ids l) (h1 : ids.length ≤ 12) (h2 : l.length ≤ 12) (by' : Nat) :
    orderL (newL ids) (passes (newL ids) (turnedTo l by' l.length) l.length []) = orderL (newL ids) (passes (newL ids) l l.length []) ∧ orderL (newL ids) (passes (newL ids) (backTo l l.length) l.length []) = orderL (newL ids) (passes (newL ids) l l.length []) := by
  have hg := newL_good ids
  have h0 : Wf (newL ids) [] := Wf.new _ hg.1 hg.2.1 hg.2.2
  have hl := newL_len ids
  have hf : ∀ p ∈ l, p.2 ∉ newL ids := fun p hp hh => hu.2 p hp (newL_sub ids _ hh)
  have key : ∀ m : List (Id × Id), (∀ p, p ∈ m ↔ p ∈ l) → m.length = l.length → orderL (newL ids) (passes (newL ids) m l.length []) = orderL (newL ids) (passes (newL ids) l l.length []) := by
    intro m hm hml
    have := putL_order h0 (snd_nodup hu.1 hm hml) hu.1 (fun p hp => hf p ((hm p).1 hp)) hm (by omega) (by omega)
    unfold putL at this
    rw [hml] at this
    exact this
  exact ⟨key _ (turned_mem l by') (length_turnedTo _ _ _), key _ (back_mem l) (length_backTo _ _)⟩

theorem cutCells_get (l : List (Id × Id)) (i : Nat) (h : i < l.length) (j : Nat) (v : Value) (hv : (putOf l[i])[j]? = some v) : (cutCells l)[i * 4 + j]? = some v := by
  induction l generalizing i with
  | nil => simp at h
  | cons x l ih =>
    have hj : j < 4 := by have := (List.getElem?_eq_some_iff.1 hv).1; simpa [putOf] using this
    cases i with
    | zero =>
      simp only [Nat.zero_mul, Nat.zero_add, List.getElem_cons_zero] at hv ⊢
      match j, hj with
      | 0, _ => simpa [cutCells, putOf] using hv
      | 1, _ => simpa [cutCells, putOf] using hv
      | 2, _ => simpa [cutCells, putOf] using hv
      | 3, _ => simpa [cutCells, putOf] using hv
    | succ i =>
      have := ih i (by simpa using h) (by simpa using hv)
      have e : (i + 1) * 4 + j = (i * 4 + j) + 1 + 1 + 1 + 1 := by omega
      rw [e]
      simpa [cutCells] using this
theorem length_cutCells (l : List (Id × Id)) : (cutCells l).length = l.length * 4 := by
  induction l with
  | nil => rfl
  | cons x l ih => simp [cutCells, ih]; omega
theorem cutCells_append (l m : List (Id × Id)) : cutCells (l ++ m) = cutCells l ++ cutCells m := by
  induction l with
  | nil => rfl
  | cons x l ih => simp [cutCells, ih]
theorem Row.toPuts {w : World} {own : Tags} {t : Nat} {e : TypeId} {A : Option Addr} {n c : Nat} {l : List (Id × Id)} (h : Row w own t e 4 (.slice A n c) n (cutCells l)) : n = l.length ∧ ManyR putOf 4 w own t A l := by
  have hn : n = l.length := by have := h.1.1; rw [length_cutCells] at this; omega
  refine ⟨hn, fun hl => ?_⟩
  rcases h.1.2 with ⟨hv, h0⟩ | ⟨g, cap, cur, hv, _, hg, h1, _, hsz, htake⟩
  · exact absurd (List.length_eq_zero_iff.1 (by omega)) hl
  · have hA : A = some ⟨g, 0, none⟩ := by injection hv
    subst hA
    have ho : own g = t := h.2 g rfl
    refine ⟨g, 0, rfl, ho, (Array.getElem?_eq_some_iff.1 hg).1, fun i hi j v hv => ?_⟩
    have hcell := h.1.cells (g := g) rfl
    have add : ∀ j, (⟨g, 0, none⟩ : Addr).add j = ⟨g, 0 + j, none⟩ := fun j => by unfold Addr.add; split <;> simp_all
    have c1 := hcell _ _ (cutCells_get l i hi j v hv)
    rw [add] at c1
    rw [Nat.add_assoc]
    exact c1
end Go.Proofs.Ytgmlhpkhecbkoaa
