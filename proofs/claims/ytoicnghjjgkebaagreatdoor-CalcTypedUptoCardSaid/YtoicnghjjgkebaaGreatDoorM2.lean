/-
  Maps keyed by structs of ints: what a lookup, an update, a deletion and a walk come to. No condition.
  Maps keyed by structs of ints at the operations; walks over one; the program's own key types. No condition.
-/
import Derived.Test.YtoicnghjjgkebaaGreatDoorC3
import Derived.MapKept
import Derived.Maps.RangeRun
set_option linter.unusedSectionVars false
set_option linter.unusedSimpArgs false
set_option linter.unusedVariables false
set_option linter.unnecessarySimpa false
namespace Go.Proofs.YtoicnghjjgkebaaGreatDoor
open Go.RowKit
set_option linter.unusedSectionVars false

/-- Keys that the program holds against each other as they are. -/
structure KeyT {K : Type} [DecidableEq K] (T : TypeId) (enc : K → Value) : Prop where
  und : ∃ fs, Tryz.prog.underlying T = some (.struct fs)
  eq : ∀ (a b : K) (w : World), (Op.equalIn 10000 T (enc a) (enc b)).run Tryz.prog w = .ok (decide (a = b)) w
  check : ∀ (em : Bool) (a : K) (w : World), (Instr.checkKey em 10000 T (enc a)).run Tryz.prog w = .ok () w
  bits : ∀ a : K, Instr.sameBits 10000 (enc a) (enc a) = true
section
variable {K : Type} [DecidableEq K] {T : TypeId} {enc : K → Value}
def findG (k : K) : List (K × Value) → Nat → Option (Nat × Value)
  | [], _ => none
  | (q, v) :: r, i => if q = k then some (i, v) else findG k r (i + 1)
def getG {α : Type} (k : K) : List (K × α) → Option α
  | [] => none
  | (q, v) :: r => if q = k then some v else getG k r
def putG {α : Type} (k : K) (v : α) : List (K × α) → List (K × α)
  | [] => [(k, v)]
  | (q, u) :: r => if q = k then (q, v) :: r else (q, u) :: putG k v r
def delG {α : Type} (k : K) : List (K × α) → List (K × α)
  | [] => []
  | (q, u) :: r => if q = k then r else (q, u) :: delG k r
theorem findG_get (k : K) (l : List (K × Value)) (i : Nat) : (findG k l i).map (·.2) = getG k l := by
  induction l generalizing i with
  | nil => rfl
  | cons p r ih =>
    obtain ⟨q, v⟩ := p
    unfold findG getG
    split
    · rfl
    · exact ih _
theorem askG (hk : KeyT T enc) (k : K) (w : World) : ∀ (es : List MapEntry) (l : List (K × Value)) (i : Nat), es.map (fun e => (e.key, e.val)) = l.map (fun p => (enc p.1, p.2)) →
    (Instr.findAsking T (enc k) es i).run Tryz.prog w = .ok (findG k l i) w := by
  intro es
  induction es with
  | nil =>
    intro l i h
    cases l with
    | nil => rfl
    | cons p r => simp at h
  | cons e es ih =>
    intro l i h
    cases l with
    | nil => simp at h
    | cons p r =>
      obtain ⟨q, v⟩ := p
      simp only [List.map_cons, List.cons.injEq, Prod.mk.injEq] at h
      obtain ⟨⟨h1, h2⟩, h3⟩ := h
      unfold Instr.findAsking findG
      simp only [Sem.run_bind, h1, h2, Op.equal, Op.maxDepth]
      rw [hk.eq]
      simp only [Result.andThen_ok]
      by_cases hq : q = k
      · subst hq
        simp
      · rw [if_neg hq, decide_eq_false (fun e => hq e.symm)]
        simp only [Bool.false_eq_true, if_false]
        exact ih r (i + 1) h3
theorem nowG (fs : Array Field) (v : Value) (es : List MapEntry) (i : Nat) : Instr.findNow (.struct fs) v es i = match es with | [] => some none | _ => none := by
  cases es with
  | nil => rfl
  | cons e es => simp [Instr.findNow, Instr.sameNow]
theorem keyG (hk : KeyT T enc) (k : K) (w : World) (es : List MapEntry) (l : List (K × Value)) (h : es.map (fun e => (e.key, e.val)) = l.map (fun p => (enc p.1, p.2))) :
    (Instr.findKey T (enc k) es).run Tryz.prog w = .ok (findG k l 0) w := by
  obtain ⟨fs, hu⟩ := hk.und
  unfold Instr.findKey
  simp only [Sem.run_bind, run_underlying hu, Result.andThen_ok, nowG]
  cases es with
  | nil =>
    cases l with
    | nil => rfl
    | cons p r => simp at h
  | cons e es => exact askG hk k w _ l 0 h
variable (enc) in
/-- Block s is a map of these keys and values, in this order. -/
def MapG (w : World) (s : Nat) (l : List (K × Value)) : Prop :=
  ∃ es clock, w.heap[s]? = some (.map es clock) ∧ es.toList.map (fun e => (e.key, e.val)) = l.map (fun p => (enc p.1, p.2)) ∧ Stamped es clock ∧ (l.map Prod.fst).Nodup
theorem MapG.lt {w : World} {s : Nat} {l : List (K × Value)} (h : MapG enc w s l) : s < w.heap.size := by
  obtain ⟨_, _, h, _⟩ := h; exact (Array.getElem?_eq_some_iff.1 h).1
theorem MapG.nodup {w : World} {s : Nat} {l : List (K × Value)} (h : MapG enc w s l) : (l.map Prod.fst).Nodup := by
  obtain ⟨_, _, _, _, _, h⟩ := h; exact h
theorem MapG.kept {w w' : World} {s : Nat} {l : List (K × Value)} (h : MapG enc w s l) (k : w'.heap[s]? = w.heap[s]?) : MapG enc w' s l := by
  obtain ⟨es, c, h1, h2, h3⟩ := h; exact ⟨es, c, k.trans h1, h2, h3⟩
variable (enc) in
theorem MapG.made (w : World) : MapG enc (w.alloc (.map #[] 0)) w.heap.size [] := ⟨#[], 0, heap_alloc_new w _, rfl, ⟨List.nodup_nil, fun x hx => by simp at hx⟩, List.nodup_nil⟩
theorem MapG.len {w : World} {s : Nat} {l : List (K × Value)} (h : MapG enc w s l) : ∃ es clock, w.heap[s]? = some (.map es clock) ∧ es.size = l.length := by
  obtain ⟨es, c, h1, h2, _⟩ := h
  refine ⟨es, c, h1, ?_⟩
  have := congrArg List.length h2
  simpa using this
theorem MapG.look (hk : KeyT T enc) {w : World} {s : Nat} {l : List (K × Value)} (h : MapG enc w s l) {M E : TypeId} (hT : Tryz.prog.underlying M = some (.map T E)) {z : Value} (hz : (zeroValue E).run Tryz.prog w = .ok z w) (k : K) (ok : Bool) :
    (Instr.lookup M (.map (some s)) (enc k) ok).run Tryz.prog w = .ok (if ok then .tuple #[(getG k l).getD z, .bool (getG k l).isSome] else (getG k l).getD z) w := by
  obtain ⟨es, c, h1, h2, _⟩ := h
  have hg : (getObj s).run Tryz.prog w = .ok (.map es c) w := by simp [getObj, Sem.run, h1]
  have hf := keyG hk k w es.toList l h2
  have hc := hk.check es.isEmpty k w
  unfold Instr.lookup
  simp only [Sem.run_bind, run_underlying hT, Result.andThen_ok, hg, Sem.run_pure, hc, hf]
  rw [← findG_get k l 0]
  cases findG k l 0 with
  | none => cases ok <;> simp [hz]
  | some p => cases ok <;> simp
theorem lookNone (hk : KeyT T enc) (w : World) {M E : TypeId} (hT : Tryz.prog.underlying M = some (.map T E)) {z : Value} (hz : (zeroValue E).run Tryz.prog w = .ok z w) (k : K) (ok : Bool) :
    (Instr.lookup M (.map none) (enc k) ok).run Tryz.prog w = .ok (if ok then .tuple #[z, .bool false] else z) w := by
  have hf := keyG hk k w [] [] rfl
  have hc := hk.check true k w
  unfold Instr.lookup
  simp only [Sem.run_bind, run_underlying hT, Result.andThen_ok, Sem.run_pure, List.isEmpty_toArray, List.isEmpty_nil, hc, hf, findG]
  cases ok <;> simp [hz]
theorem findG_none (k : K) (l : List (K × Value)) (i : Nat) (h : findG k l i = none) (v : Value) : putG k v l = l ++ [(k, v)] ∧ delG k l = l := by
  induction l generalizing i with
  | nil => exact ⟨rfl, rfl⟩
  | cons p r ih =>
    obtain ⟨q, u⟩ := p
    unfold findG at h
    split at h
    · cases h
    · rename_i hq
      obtain ⟨a, b⟩ := ih _ h
      simp only [putG, delG, if_neg hq, a, b, List.cons_append, and_self]
theorem findG_some (k : K) (l : List (K × Value)) (i : Nat) {j : Nat} {u : Value} (h : findG k l i = some (j, u)) (v : Value) : i ≤ j ∧ (j - i < l.length) ∧ (l[j - i]?).map (·.1) = some k ∧ putG k v l = l.set (j - i) (k, v) ∧ delG k l = l.eraseIdx (j - i) := by
  induction l generalizing i with
  | nil => cases h
  | cons p r ih =>
    obtain ⟨q, u'⟩ := p
    unfold findG at h
    split at h
    · rename_i hq
      cases h
      simp [putG, delG, hq]
    · rename_i hq
      obtain ⟨h1, h2, h3, h4, h5⟩ := ih _ h
      have e : j - i = (j - (i + 1)) + 1 := by omega
      refine ⟨by omega, by simp; omega, ?_, ?_, ?_⟩
      · rw [e]; simpa using h3
      · rw [e]; simp only [putG, if_neg hq, h4, List.set_cons_succ]
      · rw [e]; simp only [delG, if_neg hq, h5, List.eraseIdx_cons_succ]
theorem putG_keys {α : Type} (k : K) (v : α) (l : List (K × α)) : (putG k v l).map Prod.fst = if k ∈ l.map Prod.fst then l.map Prod.fst else l.map Prod.fst ++ [k] := by
  induction l with
  | nil => rfl
  | cons p r ih =>
    obtain ⟨q, u⟩ := p
    simp only [putG, List.map_cons, List.mem_cons]
    by_cases hq : q = k
    · rw [if_pos hq, if_pos (.inl hq.symm)]; simp
    · have hk : ¬ k = q := fun e => hq e.symm
      rw [if_neg hq, List.map_cons, ih]
      by_cases hm : k ∈ r.map Prod.fst
      · rw [if_pos hm, if_pos (.inr hm)]
      · rw [if_neg hm, if_neg (fun e => e.elim hk hm)]; rfl
theorem putG_nodup {α : Type} {k : K} {v : α} {l : List (K × α)} (h : (l.map Prod.fst).Nodup) : ((putG k v l).map Prod.fst).Nodup := by
  rw [putG_keys]
  split
  · exact h
  · rename_i hk
    rw [List.nodup_append]
    refine ⟨h, by simp, fun a ha b hb e => ?_⟩
    simp only [List.mem_singleton] at hb
    exact hk (by rw [← hb, ← e]; exact ha)
theorem putG_len {α : Type} (k : K) (v : α) (l : List (K × α)) : (putG k v l).length ≤ l.length + 1 := by
  have := congrArg List.length (putG_keys k v l)
  simp only [List.length_map] at this
  split at this
  · rw [this]; simp
  · rw [this]; simp
theorem delG_sub {α : Type} (k : K) (l : List (K × α)) : (delG k l).Sublist l := by
  induction l with
  | nil => exact List.Sublist.refl _
  | cons p r ih =>
    obtain ⟨q, u⟩ := p
    unfold delG
    split
    · exact List.sublist_cons_self _ _
    · exact ih.cons_cons _
theorem getG_put {α : Type} (k k' : K) (v : α) (l : List (K × α)) : getG k' (putG k v l) = if k = k' then some v else getG k' l := by
  induction l with
  | nil => simp [putG, getG]
  | cons p r ih =>
    obtain ⟨q, u⟩ := p
    unfold putG
    by_cases hq : q = k
    · subst hq
      rw [if_pos rfl]
      simp only [getG]
      split <;> rfl
    · rw [if_neg hq]
      simp only [getG, ih]
      by_cases hk : k = k'
      · subst hk
        rw [if_neg hq]
        simp
      · simp [hk]
theorem getG_none {α : Type} {k : K} {l : List (K × α)} (h : k ∉ l.map Prod.fst) : getG k l = none := by
  induction l with
  | nil => rfl
  | cons p r ih =>
    obtain ⟨q, u⟩ := p
    simp only [List.map_cons, List.mem_cons, not_or] at h
    rw [getG, if_neg (fun e => h.1 e.symm), ih h.2]
theorem getG_del {α : Type} (k k' : K) (l : List (K × α)) (h : (l.map Prod.fst).Nodup) : getG k' (delG k l) = if k = k' then none else getG k' l := by
  induction l with
  | nil => simp [delG, getG]
  | cons p r ih =>
    obtain ⟨q, u⟩ := p
    simp only [List.map_cons, List.nodup_cons] at h
    unfold delG
    by_cases hq : q = k
    · subst hq
      rw [if_pos rfl]
      by_cases hk : q = k'
      · subst hk; rw [if_pos rfl]; exact getG_none h.1
      · rw [if_neg hk, getG, if_neg hk]
    · rw [if_neg hq]
      simp only [getG, ih h.2]
      by_cases hk : k = k'
      · subst hk
        rw [if_neg hq]
        simp
      · simp [hk]
theorem getG_mem {α : Type} {k : K} {v : α} {l : List (K × α)} (hn : (l.map Prod.fst).Nodup) (h : (k, v) ∈ l) : getG k l = some v := by
  induction l with
  | nil => simp at h
  | cons p r ih =>
    obtain ⟨q, u⟩ := p
    simp only [List.map_cons, List.nodup_cons] at hn
    rw [getG]
    rcases List.mem_cons.1 h with h | h
    · cases h; rw [if_pos rfl]
    · rw [if_neg (fun e => hn.1 (by rw [e]; exact List.mem_map_of_mem (f := Prod.fst) h)), ih hn.2 h]
theorem mem_getG {α : Type} {k : K} {v : α} {l : List (K × α)} (h : getG k l = some v) : (k, v) ∈ l := by
  induction l with
  | nil => cases h
  | cons p r ih =>
    obtain ⟨q, u⟩ := p
    rw [getG] at h
    split at h
    · rename_i e; cases h; rw [e]; exact List.mem_cons_self ..
    · exact List.mem_cons_of_mem _ (ih h)

theorem map_erase {α β : Type} (f : α → β) : ∀ (l : List α) (j : Nat), (l.eraseIdx j).map f = (l.map f).eraseIdx j
  | [], _ => rfl
  | x :: r, 0 => rfl
  | x :: r, j + 1 => by simp only [List.eraseIdx_cons_succ, List.map_cons, map_erase f r j]
theorem setObj_map {w : World} {s : Nat} {es : Array MapEntry} {c : Nat} (h1 : w.heap[s]? = some (.map es c)) (o : Obj) : (setObj s o).run Tryz.prog w = .ok () { w with heap := w.heap.setIfInBounds s o } ∧
    ({ w with heap := w.heap.setIfInBounds s o } : World).heap[s]? = some o ∧ w.grownBy { w with heap := w.heap.setIfInBounds s o } (some s) ∧ ({ w with heap := w.heap.setIfInBounds s o } : World).heap.size = w.heap.size := by
  have hlt := (Array.getElem?_eq_some_iff.1 h1).1
  refine ⟨by simp [setObj, Sem.run, h1], by simp [hlt], ⟨rfl, rfl, rfl, by simp, fun j _ hne => ?_⟩, by simp⟩
  show (w.heap.setIfInBounds s o)[j]? = _
  rw [Array.getElem?_setIfInBounds_ne (fun e => hne (by rw [e]))]
theorem MapG.update (hk : KeyT T enc) {w : World} {s : Nat} {l : List (K × Value)} (h : MapG enc w s l) {M E : TypeId} (hT : Tryz.prog.underlying M = some (.map T E)) (k : K) (v : Value) :
    ∃ w', (Instr.mapUpdate M (.map (some s)) (enc k) v).run Tryz.prog w = .ok () w' ∧ MapG enc w' s (putG k v l) ∧ w.grownBy w' (some s) ∧ w'.heap.size = w.heap.size := by
  obtain ⟨es, c, h1, h2, h3, h4⟩ := h
  have hg : (getObj s).run Tryz.prog w = .ok (.map es c) w := by simp [getObj, Sem.run, h1]
  have hf := keyG hk k w es.toList l h2
  have hc := hk.check false k w
  have hset := fun o => setObj_map h1 o
  unfold Instr.mapUpdate
  simp only [Sem.run_bind, run_underlying hT, Result.andThen_ok, hg, hc, hf]
  cases hkk : findG k l 0 with
  | none =>
    simp only [(hset _).1]
    refine ⟨_, rfl, ⟨_, _, (hset _).2.1, ?_, ?_, putG_nodup h4⟩, (hset _).2.2.1, (hset _).2.2.2⟩
    · rw [(findG_none k l 0 hkk v).1]
      simp [h2]
    · refine ⟨?_, ?_⟩
      · simp only [Array.toList_push, List.map_append, List.map_cons, List.map_nil]
        rw [List.nodup_append]
        refine ⟨h3.1, by simp, fun a ha b hb e => ?_⟩
        obtain ⟨x, hx, rfl⟩ := List.mem_map.1 ha
        simp only [List.mem_singleton] at hb
        have := h3.2 x hx
        omega
      · intro x hx
        simp only [Array.toList_push, List.mem_append, List.mem_singleton] at hx
        rcases hx with hx | rfl
        · have := h3.2 x hx; omega
        · simp
  | some p =>
    obtain ⟨j, u⟩ := p
    obtain ⟨_, hj, hjk, hput, _⟩ := findG_some k l 0 hkk v
    simp only [Nat.sub_zero] at hj hjk hput
    have hlen : es.toList.length = l.length := by have := congrArg List.length h2; simpa using this
    have hjs : j < es.size := by simpa using (by omega : j < es.toList.length)
    have hkey : es[j].key = enc k := by
      have := congrArg (fun x => x[j]?) h2
      simp only [List.getElem?_map] at this
      rw [Array.getElem?_toList, Array.getElem?_eq_getElem hjs] at this
      cases hl : l[j]? with
      | none => simp [hl] at this
      | some q =>
        rw [hl] at this hjk
        simp only [Option.map_some, Option.some.injEq, Prod.mk.injEq] at this hjk
        rw [this.1, hjk]
    have hstay : (Instr.keyThatStays (enc k) (enc k)).run Tryz.prog w = .ok (enc k) w := by
      unfold Instr.keyThatStays
      rw [hk.bits]; rfl
    simp only [Array.getElem?_eq_getElem hjs, Option.map_some, Option.getD_some, hkey, Sem.run_bind, hstay, Result.andThen_ok, (hset _).1]
    have hborn : ∀ (L : List MapEntry) (i : Nat) (f : MapEntry → MapEntry), (∀ e, (f e).born = e.born) → (L.modify i f).map (·.born) = L.map (·.born) := by
      intro L i f hf
      apply List.ext_getElem?
      intro n
      simp only [List.getElem?_map, List.getElem?_modify]
      by_cases hn : i = n
      · subst hn
        cases hL : L[i]? with
        | none => simp
        | some e => simp [hf]
      · simp [hn]
    refine ⟨_, rfl, ⟨_, _, (hset _).2.1, ?_, ?_, putG_nodup h4⟩, (hset _).2.2.1, (hset _).2.2.2⟩
    rotate_left
    · have hb := hborn es.toList j (fun e => { e with key := enc k, val := v }) (fun e => rfl)
      refine ⟨?_, fun x hx => ?_⟩
      · rw [Array.toList_modify, hb]; exact h3.1
      · rw [Array.toList_modify] at hx
        have := List.mem_map_of_mem (f := (·.born)) hx
        rw [hb] at this
        obtain ⟨y, hy, e⟩ := List.mem_map.1 this
        rw [← e]; exact h3.2 y hy
    rw [hput, Array.toList_modify]
    have hmod : ∀ (L : List MapEntry) (i : Nat) (f : MapEntry → MapEntry) (y : Value × Value), (∀ e, L[i]? = some e → ((f e).key, (f e).val) = y) →
        (L.modify i f).map (fun e => (e.key, e.val)) = (L.map (fun e => (e.key, e.val))).set i y := by
      intro L i f y hy
      apply List.ext_getElem?
      intro n
      simp only [List.getElem?_map, List.getElem?_modify, List.getElem?_set, List.length_map]
      by_cases hn : i = n
      · subst hn
        cases hL : L[i]? with
        | none => simp [List.getElem?_eq_none_iff.1 hL]
        | some e => simp [hy e hL, (List.getElem?_eq_some_iff.1 hL).1]
      · simp [hn]
    rw [hmod _ j _ (enc k, v) (fun e _ => rfl), h2, List.map_set]
theorem MapG.delete (hk : KeyT T enc) (t : TypeId) {w : World} {s : Nat} {l : List (K × Value)} (h : MapG enc w s l) {M E T2 : TypeId} (hT : Tryz.prog.underlying M = some (.map T E)) (k : K) :
    ∃ w', (Builtin.delete_ #[M, T2] t #[.map (some s), enc k]).run Tryz.prog w = .ok (.tuple #[]) w' ∧ MapG enc w' s (delG k l) ∧ w.grownBy w' (some s) ∧ w'.heap.size = w.heap.size := by
  obtain ⟨es, c, h1, h2, h3, h4⟩ := h
  have hg : (getObj s).run Tryz.prog w = .ok (.map es c) w := by simp [getObj, Sem.run, h1]
  have hf := keyG hk k w es.toList l h2
  have hc := hk.check es.isEmpty k w
  have hset := fun o => setObj_map h1 o
  unfold Builtin.delete_
  simp only [List.getElem?_toArray, List.getElem?_cons_zero, List.getElem?_cons_succ, Sem.run_bind, run_underlying hT, Result.andThen_ok, hg, hc, hf]
  cases hkk : findG k l 0 with
  | none =>
    simp only [(hset _).1, Sem.run_bind, Result.andThen_ok]
    exact ⟨_, rfl, ⟨_, _, (hset _).2.1, by rw [(findG_none k l 0 hkk (.bool true)).2]; exact h2, h3, by rw [(findG_none k l 0 hkk (.bool true)).2]; exact h4⟩, (hset _).2.2.1, (hset _).2.2.2⟩
  | some p =>
    obtain ⟨j, u⟩ := p
    obtain ⟨_, hj, hjk, _, hdel⟩ := findG_some k l 0 hkk (.bool true)
    simp only [Nat.sub_zero] at hj hjk hdel
    have hlen : es.toList.length = l.length := by have := congrArg List.length h2; simpa using this
    have hjs : j < es.size := by simpa using (by omega : j < es.toList.length)
    have he : (es.eraseIdxIfInBounds j).toList = es.toList.eraseIdx j := by
      rw [Array.eraseIdxIfInBounds, dif_pos hjs]; simp
    simp only [(hset _).1, Sem.run_bind, Result.andThen_ok]
    refine ⟨_, rfl, ⟨_, _, (hset _).2.1, ?_, ?_, ?_⟩, (hset _).2.2.1, (hset _).2.2.2⟩
    · rw [he, hdel, map_erase, h2, map_erase]
    · refine ⟨?_, fun x hx => h3.2 x ?_⟩
      · rw [he]; exact h3.1.sublist ((List.eraseIdx_sublist _ _).map _)
      · rw [he] at hx; exact (List.eraseIdx_sublist _ _).subset hx
    · exact h4.sublist ((delG_sub k l).map _)
end
end Go.Proofs.YtoicnghjjgkebaaGreatDoor
namespace Go.Proofs.YtoicnghjjgkebaaGreatDoor
open Go.RowKit
set_option linter.unusedSectionVars false
section
variable {K : Type} [DecidableEq K] {T : TypeId} {enc : K → Value}
variable {ops : Array Oper} {rest : List Oper} {o : Oper} {a : Act} {Q : Exit → Act → World → Prop}
/-- 'm[k] = v'. -/
theorem wpList_mapUpdate_g (hk : KeyT T enc) (w : World) (hg : o.guard = none) (m x v : Operand) (M : TypeId) (hop : o.op = Op.mapUpdate M m x v) (E : TypeId) (hT : Tryz.prog.underlying M = some (.map T E)) (s : Nat) (l : List (K × Value))
    (hm : a.eval m = .map (some s)) (h : MapG enc w s l) (k : K) (u : Value) (hx : a.eval x = enc k) (hv : a.eval v = u)
    (hK : ∀ w', Hid (MapG enc w' s (putG k u l)) → Hid (w.grownBy w' (some s)) → Hid (w'.heap.size = w.heap.size) → wpList Tryz.prog ops Q rest (a.put o.dst undef) w') : wpList Tryz.prog ops Q (o :: rest) a w := by
  refine wpList_plain hg fun K' hK' => ?_
  obtain ⟨w', hrun, r1, r2, r3⟩ := h.update hk hT k u
  unfold Oper.wp
  simp [execOp, hop, hm, hx, hv, hrun, Result.andThen]
  exact hK' _ _ (hK w' (Lib.hid r1) (Lib.hid r2) (Lib.hid r3))
/-- 'delete(m, k)'. -/
theorem wpList_delete_g (hk : KeyT T enc) (w : World) (hg : o.guard = none) (m x : Operand) (M T2 : TypeId) (hop : o.op = Op.call { callee := Callee.builtin Builtin.delete, args := #[m, x], argTypes := #[M, T2] }) (E : TypeId) (hT : Tryz.prog.underlying M = some (.map T E)) (s : Nat) (l : List (K × Value))
    (hm : a.eval m = .map (some s)) (h : MapG enc w s l) (k : K) (hx : a.eval x = enc k)
    (hK : ∀ w', Hid (MapG enc w' s (delG k l)) → Hid (w.grownBy w' (some s)) → Hid (w'.heap.size = w.heap.size) → wpList Tryz.prog ops Q rest (a.put o.dst (.tuple #[])) w') : wpList Tryz.prog ops Q (o :: rest) a w := by
  refine wpList_plain hg fun K' hK' => ?_
  obtain ⟨w', hrun, r1, r2, r3⟩ := h.delete hk o.type (T2 := T2) hT k
  unfold Oper.wp
  simp [execOp, hop, resolve, invoke, builtin, hm, hx, hrun, Result.andThen]
  exact hK' _ _ (hK w' (Lib.hid r1) (Lib.hid r2) (Lib.hid r3))
theorem wpList_delete_nil (hk : KeyT T enc) (w : World) (hg : o.guard = none) (m x : Operand) (M T2 : TypeId) (hop : o.op = Op.call { callee := Callee.builtin Builtin.delete, args := #[m, x], argTypes := #[M, T2] }) (E : TypeId) (hT : Tryz.prog.underlying M = some (.map T E))
    (hm : a.eval m = .map none) (k : K) (hx : a.eval x = enc k)
    (hK : wpList Tryz.prog ops Q rest (a.put o.dst (.tuple #[])) w) : wpList Tryz.prog ops Q (o :: rest) a w := by
  refine wpList_plain hg fun K' hK' => ?_
  have hrun : (Builtin.delete_ #[M, T2] o.type #[.map none, enc k]).run Tryz.prog w = .ok (.tuple #[]) w := by
    simp [Builtin.delete_, run_underlying hT, hk.check, Result.andThen]
  unfold Oper.wp
  simp [execOp, hop, resolve, invoke, builtin, hm, hx, hrun, Result.andThen]
  exact hK' _ _ hK
theorem run_len_g {w : World} {s : Nat} {l : List (K × Value)} (h : MapG enc w s l) {M E : TypeId} (hT : Tryz.prog.underlying M = some (.map T E)) (ty : TypeId) : (Builtin.len_ #[M] ty #[.map (some s)]).run Tryz.prog w = .ok (.int .i64 l.length) w := by
  obtain ⟨es, c, h1, h2⟩ := h.len
  have hg : (getObj s).run Tryz.prog w = .ok (.map es c) w := by simp [getObj, Sem.run, h1]
  simp [Builtin.len_, run_underlying hT, hg, goInt, Result.andThen, h2]

/-! ### a walk over a map -/
variable (enc) in
/-- A loop over the map b, of keys and values l, is under way; its iterator is the block r; 'rem' are still to come. -/
def RangeG (w : World) (b r : Nat) (l rem : List (K × Value)) : Prop :=
  ∃ es clock since seen c0, w.heap[b]? = some (.map es clock) ∧ es.toList.map (fun e => (e.key, e.val)) = l.map (fun p => (enc p.1, p.2)) ∧ Stamped es clock ∧ w.heap[r]? = some (.mapIter (some b) since seen c0) ∧ (∀ x ∈ es.toList, x.born < since) ∧ since ≤ c0 ∧ since ≤ clock ∧
    (leftOf es seen).toList.map (fun e => (e.key, e.val)) = rem.map (fun p => (enc p.1, p.2))
theorem RangeG.kept {w w' : World} {b r : Nat} {l rem : List (K × Value)} (h : RangeG enc w b r l rem) (hb : w'.heap[b]? = w.heap[b]?) (hr : w'.heap[r]? = w.heap[r]?) : RangeG enc w' b r l rem := by
  obtain ⟨es, clock, since, seen, c0, h1, h2, h3, h4, h5⟩ := h
  exact ⟨es, clock, since, seen, c0, hb.trans h1, h2, h3, hr.trans h4, h5⟩
theorem RangeG.lt {w : World} {b r : Nat} {l rem : List (K × Value)} (h : RangeG enc w b r l rem) : b < w.heap.size ∧ r < w.heap.size := by
  obtain ⟨es, clock, since, seen, c0, h1, _, _, h4, _⟩ := h
  exact ⟨(Array.getElem?_eq_some_iff.1 h1).1, (Array.getElem?_eq_some_iff.1 h4).1⟩
theorem run_range_g (w : World) {t e : TypeId} {b : Nat} {l : List (K × Value)} (ht : Tryz.prog.underlying t = some (.map T e)) (h : MapG enc w b l) :
    ∃ w', (Instr.range t (.map (some b))).run Tryz.prog w = .ok (.pointer (some ⟨w.heap.size, 0, none⟩)) w' ∧ RangeG enc w' b w.heap.size l l ∧ Below w.heap.size w w' ∧ w'.heap.size = w.heap.size + 1 := by
  obtain ⟨es, clock, hb, hkv, hst, _⟩ := h
  refine ⟨_, run_range_map w t T e b es clock ht hb, ⟨es, clock, clock, #[], clock, ?_, hkv, hst, heap_alloc_new w _, hst.2, Nat.le_refl _, Nat.le_refl _, ?_⟩, (Below.refl _ _).alloc (Nat.le_refl _) _, by simp⟩
  · rw [heap_alloc_old w _ (Array.getElem?_eq_some_iff.1 hb).1]; exact hb
  · have : leftOf es #[] = es := by unfold leftOf; simp
    rw [this]; exact hkv
theorem left_pushed (es : Array MapEntry) (seen : Array Nat) (e : MapEntry) (hn : (es.toList.map (·.born)).Nodup) {L1 L2 : List MapEntry} (h : (leftOf es seen).toList = L1 ++ e :: L2) : (leftOf es (seen.push e.born)).toList = L1 ++ L2 := by
  have h1 : (leftOf es (seen.push e.born)).toList = (leftOf es seen).toList.filter (fun x => !(x.born == e.born)) := by
    unfold leftOf
    rw [Array.toList_filter, Array.toList_filter, List.filter_filter]
    congr 1
    funext x
    rw [contains_push]
    cases seen.contains x.born <;> cases (x.born == e.born) <;> rfl
  have hn1 : ((L1 ++ e :: L2).map (·.born)).Nodup := by
    rw [← h]
    unfold leftOf
    rw [Array.toList_filter]
    exact hn.sublist (List.Sublist.map _ List.filter_sublist)
  rw [h1, h, List.filter_append, List.filter_cons]
  have : (!(e.born == e.born)) = false := by simp
  rw [this]
  simp only [Bool.false_eq_true, if_false]
  rw [List.map_append, List.map_cons, List.nodup_append] at hn1
  obtain ⟨_, n2, n3⟩ := hn1
  rw [List.nodup_cons] at n2
  congr 1
  · rw [List.filter_eq_self]
    intro x hx
    have := n3 x.born (List.mem_map_of_mem hx) e.born (List.mem_cons_self ..)
    simpa using this
  · rw [List.filter_eq_self]
    intro x hx
    have : x.born ≠ e.born := fun E => n2.1 (by rw [← E]; exact List.mem_map_of_mem hx)
    simpa using this
/-- What 'next' comes to: nothing is left, or some entry of those that are. -/
theorem run_next_g (w : World) {ty : TypeId} {b r : Nat} {l rem : List (K × Value)} (h : RangeG enc w b r l rem) :
    (rem = [] ∧ (Instr.next (.pointer (some ⟨r, 0, none⟩)) false ty).run Tryz.prog w = .ok (.tuple #[.bool false]) w) ∨
    ∃ (k : K) (v : Value) (pre post : List (K × Value)) (w' : World), rem = pre ++ (k, v) :: post ∧ (Instr.next (.pointer (some ⟨r, 0, none⟩)) false ty).run Tryz.prog w = .ok (.tuple #[.bool true, enc k, v]) w' ∧ RangeG enc w' b r l (pre ++ post) ∧ w.grownBy w' (some r) ∧ w'.heap.size = w.heap.size ∧
      (Instr.entry (.pointer (some ⟨r, 0, none⟩))).run Tryz.prog w' = .ok (.tuple #[enc k, v]) w' := by
  obtain ⟨es, clock, since, seen, c0, h1, h2, h3, h4, h5, h6, h7, h8⟩ := h
  have hlt := (Array.getElem?_eq_some_iff.1 h4).1
  have hbr : b ≠ r := fun e => by subst e; rw [h1] at h4; cases h4
  rcases run_next_at (P := Tryz.prog) w ty r b since c0 seen es clock h4 h1 h5 h6 with ⟨h0, hrun⟩ | ⟨e, he, w1, hw1, hrun⟩
  · refine .inl ⟨?_, hrun⟩
    have := congrArg List.length h8
    simp [h0] at this
    exact List.eq_nil_of_length_eq_zero this.symm
  · obtain ⟨L1, L2, hL⟩ := List.append_of_mem he
    have hb1 : w1.heap[b]? = some (.map es clock) := by rcases hw1 with rfl | rfl <;> exact h1
    have hl1 : r < w1.heap.size := by rcases hw1 with rfl | rfl <;> exact hlt
    have hs1 : w1.heap.size = w.heap.size := by rcases hw1 with rfl | rfl <;> rfl
    have hmb : (ChangeMaps.setBlock w1 r (.mapIter (some b) since (seen.push e.born) clock)).heap[b]? = some (.map es clock) := by
      unfold ChangeMaps.setBlock
      show (w1.heap.setIfInBounds r _)[b]? = _
      rw [Array.getElem?_setIfInBounds_ne (fun e => hbr e.symm)]; exact hb1
    have hmr : (ChangeMaps.setBlock w1 r (.mapIter (some b) since (seen.push e.born) clock)).heap[r]? = some (.mapIter (some b) since (seen.push e.born) clock) := by
      unfold ChangeMaps.setBlock
      show (w1.heap.setIfInBounds r _)[r]? = _
      simp [hl1]
    have hm := h8
    rw [hL, List.map_append, List.map_cons] at hm
    obtain ⟨pre, rest', rfl, hp, hr'⟩ := List.append_eq_map_iff.1 hm
    obtain ⟨x, post, rfl, hx, hq⟩ := List.map_eq_cons_iff.1 hr'
    obtain ⟨k, v⟩ := x
    simp only [Prod.mk.injEq] at hx
    obtain ⟨hk, hv⟩ := hx
    have hmem := (mem_left he).1
    have hen := run_entry_at (P := Tryz.prog) _ r b since seen es clock e hmr hmb hmem h3.1
    rw [← hk, ← hv] at hrun hen
    have hgr : w.grownBy (ChangeMaps.setBlock w1 r (.mapIter (some b) since (seen.push e.born) clock)) (some r) := by
      refine ⟨by rcases hw1 with rfl | rfl <;> rfl, by rcases hw1 with rfl | rfl <;> rfl, by rcases hw1 with rfl | rfl <;> rfl, by simp [ChangeMaps.setBlock, hs1], fun j hj hne => ?_⟩
      unfold ChangeMaps.setBlock
      show (w1.heap.setIfInBounds r _)[j]? = _
      rw [Array.getElem?_setIfInBounds_ne (fun e => hne (by rw [e]))]
      rcases hw1 with rfl | rfl <;> rfl
    exact .inr ⟨k, v, pre, post, _, rfl, hrun, ⟨es, clock, since, seen.push e.born, clock, hmb, h2, h3, hmr, h5, h7, h7, by rw [left_pushed es seen e h3.1 hL, List.map_append, List.map_append, hp, hq]⟩, hgr, by simp [ChangeMaps.setBlock, hs1], hen⟩
end

/-! ### the program's own key types -/
theorem keyId : KeyT 27 idv := ⟨⟨_, Tryz.underlying27⟩, fun a b w => by
  have h := Tryz.equal27 a.1 a.2 b.1 b.2 w 9998
  rw [show 9998 + 2 = 10000 from rfl] at h
  rw [show ideq a.1 a.2 b.1 b.2 = decide (a = b) by rw [Bool.eq_iff_iff, ideq_true, decide_eq_true_iff, Prod.ext_iff]] at h
  exact h, fun em a w => Tryz.check27 em a.1 a.2 w, fun a => by simp [Instr.sameBits, idv]⟩
theorem Tryz.stood89 : Tryz.prog.stoodInHeld 89 = false := by kernel_rfl
theorem Tryz.fields89 : Tryz.prog.fieldsOf 89 = #[{ name := "row", type := 3, offset := 0, embedded := false, tag := "", pkgPath := "counterpane/calc", byteOffset := 0 }, { name := "col", type := 3, offset := 1, embedded := false, tag := "", pkgPath := "counterpane/calc", byteOffset := 8 }] := by kernel_rfl
theorem Tryz.equal89 (x y z u : Int) (w : World) (n : Nat) : (Op.equalIn (n + 2) 89 (.agg #[.int .i64 x, .int .i64 y]) (.agg #[.int .i64 z, .int .i64 u])).run Tryz.prog w = .ok (ideq x y z u) w := by
  rw [run_equalIn_struct w (n + 1) 89 _ _ (by rw [Tryz.fields89]; exact Tryz.underlying89) Tryz.stood89, Tryz.fields89]
  unfold ideq
  by_cases h1 : x = z
  · by_cases h2 : y = u
    · simp [Op.eqFields, part, isAgg, go_sem, Tryz.underlying3, h1, h2]
    · simp [Op.eqFields, part, isAgg, go_sem, Tryz.underlying3, h1, h2]
  · simp [Op.eqFields, part, isAgg, go_sem, Tryz.underlying3, h1]
theorem keyPlace : KeyT 89 idv := ⟨⟨_, Tryz.underlying89⟩, fun a b w => by
  have h := Tryz.equal89 a.1 a.2 b.1 b.2 w 9998
  rw [show 9998 + 2 = 10000 from rfl] at h
  rw [show ideq a.1 a.2 b.1 b.2 = decide (a = b) by rw [Bool.eq_iff_iff, ideq_true, decide_eq_true_iff, Prod.ext_iff]] at h
  exact h, fun em a w => by
  obtain ⟨x, y⟩ := a
  show (Instr.checkKey em 10000 89 (.agg #[.int .i64 x, .int .i64 y])).run Tryz.prog w = .ok () w
  kernel_rfl, fun a => by simp [Instr.sameBits, idv]⟩
theorem Tryz.stood156 : Tryz.prog.stoodInHeld 156 = false := by kernel_rfl
theorem Tryz.fields156 : Tryz.prog.fieldsOf 156 = #[{ name := "row", type := 3, offset := 0, embedded := false, tag := "", pkgPath := "counterpane/spill", byteOffset := 0 }, { name := "col", type := 3, offset := 1, embedded := false, tag := "", pkgPath := "counterpane/spill", byteOffset := 8 }] := by kernel_rfl
theorem Tryz.equal156 (x y z u : Int) (w : World) (n : Nat) : (Op.equalIn (n + 2) 156 (.agg #[.int .i64 x, .int .i64 y]) (.agg #[.int .i64 z, .int .i64 u])).run Tryz.prog w = .ok (ideq x y z u) w := by
  rw [run_equalIn_struct w (n + 1) 156 _ _ (by rw [Tryz.fields156]; exact Tryz.underlying156) Tryz.stood156, Tryz.fields156]
  unfold ideq
  by_cases h1 : x = z
  · by_cases h2 : y = u
    · simp [Op.eqFields, part, isAgg, go_sem, Tryz.underlying3, h1, h2]
    · simp [Op.eqFields, part, isAgg, go_sem, Tryz.underlying3, h1, h2]
  · simp [Op.eqFields, part, isAgg, go_sem, Tryz.underlying3, h1]
theorem keySpot : KeyT 156 idv := ⟨⟨_, Tryz.underlying156⟩, fun a b w => by
  have h := Tryz.equal156 a.1 a.2 b.1 b.2 w 9998
  rw [show 9998 + 2 = 10000 from rfl] at h
  rw [show ideq a.1 a.2 b.1 b.2 = decide (a = b) by rw [Bool.eq_iff_iff, ideq_true, decide_eq_true_iff, Prod.ext_iff]] at h
  exact h, fun em a w => by
  obtain ⟨x, y⟩ := a
  show (Instr.checkKey em 10000 156 (.agg #[.int .i64 x, .int .i64 y])).run Tryz.prog w = .ok () w
  kernel_rfl, fun a => by simp [Instr.sameBits, idv]⟩

abbrev Cel := Id × Id
def celv (x : Cel) : Value := .agg #[.int .i64 x.1.1, .int .i64 x.1.2, .int .i64 x.2.1, .int .i64 x.2.2]
theorem Tryz.stood29 : Tryz.prog.stoodInHeld 29 = false := by kernel_rfl
theorem Tryz.guard29 : Tryz.prog.eqGuardType Tryz.prog.depth 29 = false := by kernel_rfl
theorem Tryz.fields29 : Tryz.prog.fieldsOf 29 = #[{ name := "Row", type := 27, offset := 0, embedded := false, tag := "", pkgPath := "", byteOffset := 0 }, { name := "Col", type := 27, offset := 2, embedded := false, tag := "", pkgPath := "", byteOffset := 16 }] := by kernel_rfl
theorem Tryz.part27 (a b c d : Int) (w : World) : (part 27 #[.int .i64 a, .int .i64 b, .int .i64 c, .int .i64 d] 0).run Tryz.prog w = .ok (.agg #[.int .i64 a, .int .i64 b]) w ∧ (part 27 #[.int .i64 a, .int .i64 b, .int .i64 c, .int .i64 d] 2).run Tryz.prog w = .ok (.agg #[.int .i64 c, .int .i64 d]) w := ⟨by kernel_rfl, by kernel_rfl⟩
theorem Tryz.equal29 (a b c d a' b' c' d' : Int) (w : World) (n : Nat) : (Op.equalIn (n + 3) 29 (.agg #[.int .i64 a, .int .i64 b, .int .i64 c, .int .i64 d]) (.agg #[.int .i64 a', .int .i64 b', .int .i64 c', .int .i64 d'])).run Tryz.prog w = .ok (ideq a b a' b' && ideq c d c' d') w := by
  rw [run_equalIn_struct w (n+2) 29 _ _ (by rw [Tryz.fields29]; exact Tryz.underlying29) Tryz.stood29, Tryz.fields29]
  have h1 := Tryz.equal27 a b a' b' w n
  have h2 := Tryz.equal27 c d c' d' w n
  have p1 := Tryz.part27 a b c d w
  have p2 := Tryz.part27 a' b' c' d' w
  cases hi : ideq a b a' b' <;> cases hj : ideq c d c' d' <;> rw [hi] at h1 <;> rw [hj] at h2 <;> simp [Op.eqFields, p1, p2, h1, h2, Result.andThen]
@[go_sem ↓] theorem Tryz.eql29 (a b c d a' b' c' d' : Int) (w : World) : (binOp .eql 29 (.agg #[.int .i64 a, .int .i64 b, .int .i64 c, .int .i64 d]) (.agg #[.int .i64 a', .int .i64 b', .int .i64 c', .int .i64 d'])).run Tryz.prog w = .ok (.bool (ideq a b a' b' && ideq c d c' d')) w := by
  rw [run_eql_struct, Tryz.equal29]; rfl
@[go_sem ↓] theorem Tryz.eqg29 (op : BinOp) (x y : Operand) (xs ys : Array Value) (w : World) : (eqGuard op 29 x y (.agg xs) (.agg ys)).run Tryz.prog w = .ok () w := run_eqGuard_agg w op 29 x y xs ys Tryz.guard29
theorem keyCell : KeyT 29 celv := ⟨⟨_, Tryz.underlying29⟩, fun a b w => by
  have h := Tryz.equal29 a.1.1 a.1.2 a.2.1 a.2.2 b.1.1 b.1.2 b.2.1 b.2.2 w 9997
  rw [show 9997 + 3 = 10000 from rfl] at h
  rw [show (ideq a.1.1 a.1.2 b.1.1 b.1.2 && ideq a.2.1 a.2.2 b.2.1 b.2.2) = decide (a = b) by rw [Bool.eq_iff_iff, Bool.and_eq_true, ideq_true, ideq_true, decide_eq_true_iff, Prod.ext_iff, Prod.ext_iff, Prod.ext_iff]] at h
  exact h, fun em a w => by
  obtain ⟨⟨x, y⟩, z, u⟩ := a
  show (Instr.checkKey em 10000 29 (.agg #[.int .i64 x, .int .i64 y, .int .i64 z, .int .i64 u])).run Tryz.prog w = .ok () w
  kernel_rfl, fun a => by simp [Instr.sameBits, celv]⟩
end Go.Proofs.YtoicnghjjgkebaaGreatDoor
