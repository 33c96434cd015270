/-
  The program's own tables for ids: equality of ids, maps keyed by ids. No condition.
-/
import Derived.Test.YtgmlhpkhecbkoaaProg
import Derived.Test.YtgmlhpkhecbkoaaG
import Derived.WalkLawsBesides
import Derived.Deep.QuietTactic
import Derived.BigQuiet
import Derived.Lib.Hide
import Derived.KernelRfl
namespace Go.Proofs.Ytgmlhpkhecbkoaa
open Go.RowKit

theorem Try.info24 : (Try.prog.info? 24).map (fun i => (i.zero, i.size, i.bytes)) = some (some (.agg #[.int .i64 0, .int .i64 0]), 2, 16) := by kernel_rfl
theorem Try.info3 : (Try.prog.info? 3).map (fun i => (i.zero, i.size, i.bytes)) = some (some (.int .i64 0), 1, 8) := by kernel_rfl
theorem Try.info4 : (Try.prog.info? 4).map (fun i => (i.zero, i.size, i.bytes)) = some (some (.bool false), 1, 1) := by kernel_rfl
theorem Try.stood24 : Try.prog.stoodInHeld 24 = false := by kernel_rfl
theorem Try.guard24 : Try.prog.eqGuardType Try.prog.depth 24 = false := by kernel_rfl
theorem Try.fields24 : Try.prog.fieldsOf 24 = #[{ name := "Author", type := 3, offset := 0, embedded := false, tag := "", pkgPath := "", byteOffset := 0 }, { name := "N", type := 3, offset := 1, embedded := false, tag := "", pkgPath := "", byteOffset := 8 }] := by kernel_rfl
theorem Try.check24 (em : Bool) (a b : Int) (w : World) : (Instr.checkKey em 10000 24 (.agg #[.int .i64 a, .int .i64 b])).run Try.prog w = .ok () w := by kernel_rfl

theorem Try.equal24 (a b c d : Int) (w : World) (n : Nat) : (Op.equalIn (n + 2) 24 (.agg #[.int .i64 a, .int .i64 b]) (.agg #[.int .i64 c, .int .i64 d])).run Try.prog w = .ok (ideq a b c d) w := by
  rw [run_equalIn_struct w (n+1) 24 _ _ (by rw [Try.fields24]; exact Try.underlying24) Try.stood24, Try.fields24]
  unfold ideq
  by_cases h1 : a = c
  · by_cases h2 : b = d
    · simp [Op.eqFields, part, isAgg, go_sem, Try.underlying3, h1, h2]
    · simp [Op.eqFields, part, isAgg, go_sem, Try.underlying3, h1, h2]
  · simp [Op.eqFields, part, isAgg, go_sem, Try.underlying3, h1]
@[go_sem ↓] theorem Try.eql24 (a b c d : Int) (w : World) : (binOp .eql 24 (.agg #[.int .i64 a, .int .i64 b]) (.agg #[.int .i64 c, .int .i64 d])).run Try.prog w = .ok (.bool (ideq a b c d)) w := by
  rw [run_eql_struct, Try.equal24]; rfl
@[go_sem ↓] theorem Try.neq24 (a b c d : Int) (w : World) : (binOp .neq 24 (.agg #[.int .i64 a, .int .i64 b]) (.agg #[.int .i64 c, .int .i64 d])).run Try.prog w = .ok (.bool (!(ideq a b c d))) w := by
  rw [run_neq_struct, Try.equal24]; rfl
@[go_sem ↓] theorem Try.eqg24 (op : BinOp) (x y : Operand) (xs ys : Array Value) (w : World) : (eqGuard op 24 x y (.agg xs) (.agg ys)).run Try.prog w = .ok () w := run_eqGuard_agg w op 24 x y xs ys Try.guard24

/-! ### maps keyed by ids -/
def findKV (k : Id) : List (Id × Value) → Nat → Option (Nat × Value)
  | [], _ => none
  | (q, v) :: r, i => if q = k then some (i, v) else findKV k r (i + 1)
def getKV {α : Type} (k : Id) : List (Id × α) → Option α
  | [] => none
  | (q, v) :: r => if q = k then some v else getKV k r
def putKV {α : Type} (k : Id) (v : α) : List (Id × α) → List (Id × α)
  | [] => [(k, v)]
  | (q, u) :: r => if q = k then (q, v) :: r else (q, u) :: putKV k v r
theorem findKV_get (k : Id) (l : List (Id × Value)) (i : Nat) : (findKV k l i).map (·.2) = getKV k l := by
  induction l generalizing i with
  | nil => rfl
  | cons p r ih =>
    obtain ⟨q, v⟩ := p
    unfold findKV getKV
    split
    · rfl
    · exact ih _
theorem run_findAsking (k : Id) (w : World) : ∀ (es : List MapEntry) (l : List (Id × Value)) (i : Nat), es.map (fun e => (e.key, e.val)) = l.map (fun p => (idv p.1, p.2)) →
    (Instr.findAsking 24 (idv k) es i).run Try.prog w = .ok (findKV k l i) w := by
  intro es
  induction es with
  | nil =>
    intro l i h
    cases l with
    | nil => rfl
    | cons p r => simp at h
  | cons e es ih =>
    intro l i h
    cases l with
    | nil => simp at h
    | cons p r =>
      obtain ⟨q, v⟩ := p
      simp only [List.map_cons, List.cons.injEq, Prod.mk.injEq] at h
      obtain ⟨⟨h1, h2⟩, h3⟩ := h
      unfold Instr.findAsking findKV
      simp only [Sem.run_bind, h1, h2, Op.equal, Op.maxDepth]
      have he := Try.equal24 k.1 k.2 q.1 q.2 w 9998
      simp only [idv] at *
      rw [he]
      simp only [Result.andThen_ok]
      by_cases hq : q = k
      · subst hq
        have : ideq q.1 q.2 q.1 q.2 = true := ideq_true.2 ⟨rfl, rfl⟩
        simp [this]
      · have : ideq k.1 k.2 q.1 q.2 = false := ideq_false.2 (fun ⟨a, b⟩ => hq (Prod.ext a.symm b.symm))
        simp only [this, if_neg hq, Bool.false_eq_true, if_false]
        exact ih r (i + 1) h3
theorem findNow24 (k : Id) (fs : Array Field) (es : List MapEntry) (i : Nat) : Instr.findNow (.struct fs) (idv k) es i = match es with | [] => some none | _ => none := by
  cases es with
  | nil => rfl
  | cons e es => simp [Instr.findNow, Instr.sameNow]
theorem run_findKey24 (k : Id) (w : World) (es : List MapEntry) (l : List (Id × Value)) (h : es.map (fun e => (e.key, e.val)) = l.map (fun p => (idv p.1, p.2))) :
    (Instr.findKey 24 (idv k) es).run Try.prog w = .ok (findKV k l 0) w := by
  unfold Instr.findKey
  simp only [Sem.run_bind, run_underlying Try.underlying24, Result.andThen_ok, findNow24]
  cases es with
  | nil =>
    cases l with
    | nil => rfl
    | cons p r => simp at h
  | cons e es => exact run_findAsking k w _ l 0 h

/-- The entries' stamps: none twice, none still to come. -/
def Stamped (es : Array MapEntry) (clock : Nat) : Prop := (es.toList.map (·.born)).Nodup ∧ ∀ x ∈ es.toList, x.born < clock
/-- Block s is a map of these keys and values, in this order. -/
def MapIs (w : World) (s : Nat) (l : List (Id × Value)) : Prop :=
  ∃ es clock, w.heap[s]? = some (.map es clock) ∧ es.toList.map (fun e => (e.key, e.val)) = l.map (fun p => (idv p.1, p.2)) ∧ Stamped es clock ∧ (l.map Prod.fst).Nodup
theorem MapIs.lt {w : World} {s : Nat} {l : List (Id × Value)} (h : MapIs w s l) : s < w.heap.size := by
  obtain ⟨_, _, h, _⟩ := h; exact (Array.getElem?_eq_some_iff.1 h).1
theorem MapIs.kept {w w' : World} {s : Nat} {l : List (Id × Value)} (h : MapIs w s l) (k : w'.heap[s]? = w.heap[s]?) : MapIs w' s l := by
  obtain ⟨es, c, h1, h2, h3⟩ := h; exact ⟨es, c, k.trans h1, h2, h3⟩
theorem MapIs.made (w : World) : MapIs (w.alloc (.map #[] 0)) w.heap.size [] := ⟨#[], 0, heap_alloc_new w _, rfl, ⟨List.nodup_nil, fun x hx => by simp at hx⟩, List.nodup_nil⟩

theorem MapIs.look {w : World} {s : Nat} {l : List (Id × Value)} (h : MapIs w s l) {T E : TypeId} (hT : Try.prog.underlying T = some (.map 24 E)) {z : Value} (hz : (zeroValue E).run Try.prog w = .ok z w) (k : Id) (ok : Bool) :
    (Instr.lookup T (.map (some s)) (idv k) ok).run Try.prog w = .ok (if ok then .tuple #[(getKV k l).getD z, .bool (getKV k l).isSome] else (getKV k l).getD z) w := by
  obtain ⟨es, c, h1, h2, _⟩ := h
  have hg : (getObj s).run Try.prog w = .ok (.map es c) w := by simp [getObj, Sem.run, h1]
  have hf := run_findKey24 k w es.toList l h2
  have hc : (Instr.checkKey es.isEmpty 10000 24 (idv k)).run Try.prog w = .ok () w := Try.check24 _ _ _ _
  unfold Instr.lookup
  simp only [Sem.run_bind, run_underlying hT, Result.andThen_ok, hg, Sem.run_pure, hc, hf]
  rw [← findKV_get k l 0]
  cases findKV k l 0 with
  | none => cases ok <;> simp [hz]
  | some p => cases ok <;> simp

theorem findKV_none (k : Id) (l : List (Id × Value)) (i : Nat) (h : findKV k l i = none) (v : Value) : putKV k v l = l ++ [(k, v)] := by
  induction l generalizing i with
  | nil => rfl
  | cons p r ih =>
    obtain ⟨q, u⟩ := p
    unfold findKV at h
    split at h
    · cases h
    · rename_i hq
      simp only [putKV, if_neg hq, ih _ h, List.cons_append]
theorem findKV_some (k : Id) (l : List (Id × Value)) (i : Nat) {j : Nat} {u : Value} (h : findKV k l i = some (j, u)) (v : Value) : i ≤ j ∧ (j - i < l.length) ∧ (l[j - i]?).map (·.1) = some k ∧ putKV k v l = l.set (j - i) (k, v) := by
  induction l generalizing i with
  | nil => cases h
  | cons p r ih =>
    obtain ⟨q, u'⟩ := p
    unfold findKV at h
    split at h
    · rename_i hq
      cases h
      simp [putKV, hq]
    · rename_i hq
      obtain ⟨h1, h2, h3, h4⟩ := ih _ h
      have e : j - i = (j - (i + 1)) + 1 := by omega
      refine ⟨by omega, by simp; omega, ?_, ?_⟩
      · rw [e]; simpa using h3
      · rw [e]; simp only [putKV, if_neg hq, h4, List.set_cons_succ]

theorem putKV_keys (k : Id) (v : Value) (l : List (Id × Value)) : (putKV k v l).map Prod.fst = if k ∈ l.map Prod.fst then l.map Prod.fst else l.map Prod.fst ++ [k] := by
  induction l with
  | nil => rfl
  | cons p r ih =>
    obtain ⟨q, u⟩ := p
    simp only [putKV, List.map_cons, List.mem_cons]
    by_cases hq : q = k
    · rw [if_pos hq, if_pos (.inl hq.symm)]; simp
    · have hk : ¬ k = q := fun e => hq e.symm
      rw [if_neg hq, List.map_cons, ih]
      by_cases hm : k ∈ r.map Prod.fst
      · rw [if_pos hm, if_pos (.inr hm)]
      · rw [if_neg hm, if_neg (fun e => e.elim hk hm)]; rfl
theorem putKV_nodup {k : Id} {v : Value} {l : List (Id × Value)} (h : (l.map Prod.fst).Nodup) : ((putKV k v l).map Prod.fst).Nodup := by
  rw [putKV_keys]
  split
  · exact h
  · rename_i hk
    rw [List.nodup_append]
    refine ⟨h, by simp, fun a ha b hb e => ?_⟩
    simp only [List.mem_singleton] at hb
    exact hk (by rw [← hb, ← e]; exact ha)
theorem MapIs.update {w : World} {s : Nat} {l : List (Id × Value)} (h : MapIs w s l) {T E : TypeId} (hT : Try.prog.underlying T = some (.map 24 E)) (k : Id) (v : Value) :
    ∃ w', (Instr.mapUpdate T (.map (some s)) (idv k) v).run Try.prog w = .ok () w' ∧ MapIs w' s (putKV k v l) ∧ w.grownBy w' (some s) := by
  have hlt := h.lt
  obtain ⟨es, c, h1, h2, h3, h4⟩ := h
  have hg : (getObj s).run Try.prog w = .ok (.map es c) w := by simp [getObj, Sem.run, h1]
  have hf := run_findKey24 k w es.toList l h2
  have hc : (Instr.checkKey false 10000 24 (idv k)).run Try.prog w = .ok () w := Try.check24 _ _ _ _
  have hset : ∀ o : Obj, (setObj s o).run Try.prog w = .ok () { w with heap := w.heap.setIfInBounds s o } := fun o => by simp [setObj, Sem.run, h1]
  have hheap : ∀ o : Obj, ({ w with heap := w.heap.setIfInBounds s o } : World).heap[s]? = some o := fun o => by simp [hlt]
  have hgrow : ∀ o : Obj, w.grownBy { w with heap := w.heap.setIfInBounds s o } (some s) := fun o => ⟨rfl, rfl, rfl, by simp, fun j _ hne => by
    show (w.heap.setIfInBounds s o)[j]? = _
    rw [Array.getElem?_setIfInBounds_ne (fun e => hne (by rw [e]))]⟩
  unfold Instr.mapUpdate
  simp only [Sem.run_bind, run_underlying hT, Result.andThen_ok, hg, hc, hf]
  cases hk : findKV k l 0 with
  | none =>
    simp only [hset]
    refine ⟨_, rfl, ⟨_, _, hheap _, ?_, ?_, putKV_nodup h4⟩, hgrow _⟩
    · rw [findKV_none k l 0 hk v]
      simp [h2]
    · refine ⟨?_, ?_⟩
      · simp only [Array.toList_push, List.map_append, List.map_cons, List.map_nil]
        rw [List.nodup_append]
        refine ⟨h3.1, by simp, fun a ha b hb e => ?_⟩
        obtain ⟨x, hx, rfl⟩ := List.mem_map.1 ha
        simp only [List.mem_singleton] at hb
        have := h3.2 x hx
        omega
      · intro x hx
        simp only [Array.toList_push, List.mem_append, List.mem_singleton] at hx
        rcases hx with hx | rfl
        · have := h3.2 x hx; omega
        · simp
  | some p =>
    obtain ⟨j, u⟩ := p
    obtain ⟨_, hj, hjk, hput⟩ := findKV_some k l 0 hk v
    simp only [Nat.sub_zero] at hj hjk hput
    have hlen : es.toList.length = l.length := by have := congrArg List.length h2; simpa using this
    have hjs : j < es.size := by simpa using (by omega : j < es.toList.length)
    have hkey : es[j].key = idv k := by
      have := congrArg (fun x => x[j]?) h2
      simp only [List.getElem?_map] at this
      rw [Array.getElem?_toList, Array.getElem?_eq_getElem hjs] at this
      cases hl : l[j]? with
      | none => simp [hl] at this
      | some q =>
        rw [hl] at this hjk
        simp only [Option.map_some, Option.some.injEq, Prod.mk.injEq] at this hjk
        rw [this.1, hjk]
    have hstay : (Instr.keyThatStays (idv k) (idv k)).run Try.prog w = .ok (idv k) w := by
      unfold Instr.keyThatStays
      have : Instr.sameBits 10000 (idv k) (idv k) = true := by simp [Instr.sameBits, idv]
      rw [this]; rfl
    simp only [Array.getElem?_eq_getElem hjs, Option.map_some, Option.getD_some, hkey, Sem.run_bind, hstay, Result.andThen_ok, hset]
    have hborn : ∀ (L : List MapEntry) (i : Nat) (f : MapEntry → MapEntry), (∀ e, (f e).born = e.born) → (L.modify i f).map (·.born) = L.map (·.born) := by
      intro L i f hf
      apply List.ext_getElem?
      intro n
      simp only [List.getElem?_map, List.getElem?_modify]
      by_cases hn : i = n
      · subst hn
        cases hL : L[i]? with
        | none => simp
        | some e => simp [hf]
      · simp [hn]
    refine ⟨_, rfl, ⟨_, _, hheap _, ?_, ?_, putKV_nodup h4⟩, hgrow _⟩
    rotate_left
    · have hb := hborn es.toList j (fun e => { e with key := idv k, val := v }) (fun e => rfl)
      refine ⟨?_, fun x hx => ?_⟩
      · rw [Array.toList_modify, hb]; exact h3.1
      · rw [Array.toList_modify] at hx
        have := List.mem_map_of_mem (f := (·.born)) hx
        rw [hb] at this
        obtain ⟨y, hy, e⟩ := List.mem_map.1 this
        rw [← e]; exact h3.2 y hy
    rw [hput, Array.toList_modify]
    have hmod : ∀ (L : List MapEntry) (i : Nat) (f : MapEntry → MapEntry) (y : Value × Value), (∀ e, L[i]? = some e → ((f e).key, (f e).val) = y) →
        (L.modify i f).map (fun e => (e.key, e.val)) = (L.map (fun e => (e.key, e.val))).set i y := by
      intro L i f y hy
      apply List.ext_getElem?
      intro n
      simp only [List.getElem?_map, List.getElem?_modify, List.getElem?_set, List.length_map]
      by_cases hn : i = n
      · subst hn
        cases hL : L[i]? with
        | none => simp [List.getElem?_eq_none_iff.1 hL]
        | some e => simp [hy e hL, (List.getElem?_eq_some_iff.1 hL).1]
      · simp [hn]
    rw [hmod _ j _ (idv k, v) (fun e _ => rfl), h2, List.map_set]

@[go_sem ↓] theorem Try.eqlnil70 (w : World) (r : Option Nat) : (binOp .eql 70 (.map r) (.map none)).run Try.prog w = .ok (.bool r.isNone) w := run_eql_map_nil w _ _ _ r Try.underlying70
@[go_sem ↓] theorem Try.neqnil70 (w : World) (r : Option Nat) : (binOp .neq 70 (.map r) (.map none)).run Try.prog w = .ok (.bool !r.isNone) w := run_neq_map_nil w _ _ _ r Try.underlying70
@[go_sem ↓] theorem Try.eqlnil95 (w : World) (r : Option Nat) : (binOp .eql 95 (.map r) (.map none)).run Try.prog w = .ok (.bool r.isNone) w := run_eql_map_nil w _ _ _ r Try.underlying95
@[go_sem ↓] theorem Try.make70 (kd : IntKind) (n : Int) (w : World) : (Instr.makeMap 70 (some (.int kd n))).run Try.prog w = .ok (.map (some w.heap.size)) (w.alloc (.map #[] 0)) := by
  simp [Instr.makeMap, run_underlying Try.underlying70]; rfl
@[go_sem ↓] theorem Try.make95 (w : World) : (Instr.makeMap 95 none).run Try.prog w = .ok (.map (some w.heap.size)) (w.alloc (.map #[] 0)) := by
  simp [Instr.makeMap, run_underlying Try.underlying95]

/-- 'm[k] = v' at the operation, keyed by ids. -/
theorem wpList_mapUpdate_id (w : World) {ops : Array Oper} {rest : List Oper} {o : Oper} {a : Act} {Q : Exit → Act → World → Prop}
    (hg : o.guard = none) (m x v : Operand) (T : TypeId) (hop : o.op = Op.mapUpdate T m x v) (E : TypeId) (hT : Try.prog.underlying T = some (.map 24 E)) (s : Nat) (l : List (Id × Value))
    (hm : a.eval m = .map (some s)) (h : MapIs w s l) (k1 k2 : Int) (u : Value) (hx : a.eval x = .agg #[.int .i64 k1, .int .i64 k2]) (hv : a.eval v = u)
    (hK : ∀ w', MapIs w' s (putKV (k1, k2) u l) → w.grownBy w' (some s) → wpList Try.prog ops Q rest (a.put o.dst undef) w') :
    wpList Try.prog ops Q (o :: rest) a w := by
  refine wpList_plain hg fun K' hK' => ?_
  obtain ⟨w', hrun, r1, r2⟩ := h.update hT (k1, k2) u
  simp only [idv] at hrun
  unfold Oper.wp
  simp [execOp, hop, hm, hx, hv, hrun, Result.andThen]
  exact hK' _ _ (hK w' r1 r2)

end Go.Proofs.Ytgmlhpkhecbkoaa
