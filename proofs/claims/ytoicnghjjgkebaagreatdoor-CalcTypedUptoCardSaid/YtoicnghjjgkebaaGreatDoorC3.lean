/-
  The program's own tables for ids: equality of ids, maps keyed by ids. No condition.
  slices.Index at ids. No condition but that the slice can be read.
  What an axis is in memory; spot, forget. Conditions: the axis lies in memory as AxisAt says.
  (*Axis).ready. Condition: the axis lies in memory as AxisAt says.
-/
import Derived.Test.YtoicnghjjgkebaaGreatDoorQ4
import Derived.WalkLawsBesides
import Derived.Deep.QuietTactic
import Derived.BigQuiet
import Derived.Lib.Hide
import Derived.KernelRfl
import Derived.StillTailTactics
import Derived.Deep.RegionHeld3
set_option linter.unusedSectionVars false
set_option linter.unusedSimpArgs false
set_option linter.unusedVariables false
set_option linter.unnecessarySimpa false
namespace Go.Proofs.YtoicnghjjgkebaaGreatDoor
open Go.RowKit

theorem Tryz.info27 : (Tryz.prog.info? 27).map (fun i => (i.zero, i.size, i.bytes)) = some (some (.agg #[.int .i64 0, .int .i64 0]), 2, 16) := by kernel_rfl
theorem Tryz.info4 : (Tryz.prog.info? 4).map (fun i => (i.zero, i.size, i.bytes)) = some (some (.bool false), 1, 1) := by kernel_rfl
theorem Tryz.stood27 : Tryz.prog.stoodInHeld 27 = false := by kernel_rfl
theorem Tryz.guard27 : Tryz.prog.eqGuardType Tryz.prog.depth 27 = false := by kernel_rfl
theorem Tryz.fields27 : Tryz.prog.fieldsOf 27 = #[{ name := "Author", type := 3, offset := 0, embedded := false, tag := "", pkgPath := "", byteOffset := 0 }, { name := "N", type := 3, offset := 1, embedded := false, tag := "", pkgPath := "", byteOffset := 8 }] := by kernel_rfl
theorem Tryz.check27 (em : Bool) (a b : Int) (w : World) : (Instr.checkKey em 10000 27 (.agg #[.int .i64 a, .int .i64 b])).run Tryz.prog w = .ok () w := by kernel_rfl

theorem Tryz.equal27 (a b c d : Int) (w : World) (n : Nat) : (Op.equalIn (n + 2) 27 (.agg #[.int .i64 a, .int .i64 b]) (.agg #[.int .i64 c, .int .i64 d])).run Tryz.prog w = .ok (ideq a b c d) w := by
  rw [run_equalIn_struct w (n+1) 27 _ _ (by rw [Tryz.fields27]; exact Tryz.underlying27) Tryz.stood27, Tryz.fields27]
  unfold ideq
  by_cases h1 : a = c
  · by_cases h2 : b = d
    · simp [Op.eqFields, part, isAgg, go_sem, Tryz.underlying3, h1, h2]
    · simp [Op.eqFields, part, isAgg, go_sem, Tryz.underlying3, h1, h2]
  · simp [Op.eqFields, part, isAgg, go_sem, Tryz.underlying3, h1]
@[go_sem ↓] theorem Tryz.eql27 (a b c d : Int) (w : World) : (binOp .eql 27 (.agg #[.int .i64 a, .int .i64 b]) (.agg #[.int .i64 c, .int .i64 d])).run Tryz.prog w = .ok (.bool (ideq a b c d)) w := by
  rw [run_eql_struct, Tryz.equal27]; rfl
@[go_sem ↓] theorem Tryz.neq27 (a b c d : Int) (w : World) : (binOp .neq 27 (.agg #[.int .i64 a, .int .i64 b]) (.agg #[.int .i64 c, .int .i64 d])).run Tryz.prog w = .ok (.bool (!(ideq a b c d))) w := by
  rw [run_neq_struct, Tryz.equal27]; rfl
@[go_sem ↓] theorem Tryz.eqg27 (op : BinOp) (x y : Operand) (xs ys : Array Value) (w : World) : (eqGuard op 27 x y (.agg xs) (.agg ys)).run Tryz.prog w = .ok () w := run_eqGuard_agg w op 27 x y xs ys Tryz.guard27

/-! ### maps keyed by ids -/
def findKV (k : Id) : List (Id × Value) → Nat → Option (Nat × Value)
  | [], _ => none
  | (q, v) :: r, i => if q = k then some (i, v) else findKV k r (i + 1)
def getKV {α : Type} (k : Id) : List (Id × α) → Option α
  | [] => none
  | (q, v) :: r => if q = k then some v else getKV k r
def putKV {α : Type} (k : Id) (v : α) : List (Id × α) → List (Id × α)
  | [] => [(k, v)]
  | (q, u) :: r => if q = k then (q, v) :: r else (q, u) :: putKV k v r
theorem findKV_get (k : Id) (l : List (Id × Value)) (i : Nat) : (findKV k l i).map (·.2) = getKV k l := by
  induction l generalizing i with
  | nil => rfl
  | cons p r ih =>
    obtain ⟨q, v⟩ := p
    unfold findKV getKV
    split
    · rfl
    · exact ih _
theorem run_findAsking (k : Id) (w : World) : ∀ (es : List MapEntry) (l : List (Id × Value)) (i : Nat), es.map (fun e => (e.key, e.val)) = l.map (fun p => (idv p.1, p.2)) →
    (Instr.findAsking 27 (idv k) es i).run Tryz.prog w = .ok (findKV k l i) w := by
  intro es
  induction es with
  | nil =>
    intro l i h
    cases l with
    | nil => rfl
    | cons p r => simp at h
  | cons e es ih =>
    intro l i h
    cases l with
    | nil => simp at h
    | cons p r =>
      obtain ⟨q, v⟩ := p
      simp only [List.map_cons, List.cons.injEq, Prod.mk.injEq] at h
      obtain ⟨⟨h1, h2⟩, h3⟩ := h
      unfold Instr.findAsking findKV
      simp only [Sem.run_bind, h1, h2, Op.equal, Op.maxDepth]
      have he := Tryz.equal27 k.1 k.2 q.1 q.2 w 9998
      simp only [idv] at *
      rw [he]
      simp only [Result.andThen_ok]
      by_cases hq : q = k
      · subst hq
        have : ideq q.1 q.2 q.1 q.2 = true := ideq_true.2 ⟨rfl, rfl⟩
        simp [this]
      · have : ideq k.1 k.2 q.1 q.2 = false := ideq_false.2 (fun ⟨a, b⟩ => hq (Prod.ext a.symm b.symm))
        simp only [this, if_neg hq, Bool.false_eq_true, if_false]
        exact ih r (i + 1) h3
theorem findNow24 (k : Id) (fs : Array Field) (es : List MapEntry) (i : Nat) : Instr.findNow (.struct fs) (idv k) es i = match es with | [] => some none | _ => none := by
  cases es with
  | nil => rfl
  | cons e es => simp [Instr.findNow, Instr.sameNow]
theorem run_findKey24 (k : Id) (w : World) (es : List MapEntry) (l : List (Id × Value)) (h : es.map (fun e => (e.key, e.val)) = l.map (fun p => (idv p.1, p.2))) :
    (Instr.findKey 27 (idv k) es).run Tryz.prog w = .ok (findKV k l 0) w := by
  unfold Instr.findKey
  simp only [Sem.run_bind, run_underlying Tryz.underlying27, Result.andThen_ok, findNow24]
  cases es with
  | nil =>
    cases l with
    | nil => rfl
    | cons p r => simp at h
  | cons e es => exact run_findAsking k w _ l 0 h

/-- The entries' stamps: none twice, none still to come. -/
def Stamped (es : Array MapEntry) (clock : Nat) : Prop := (es.toList.map (·.born)).Nodup ∧ ∀ x ∈ es.toList, x.born < clock
/-- Block s is a map of these keys and values, in this order. -/
def MapIs (w : World) (s : Nat) (l : List (Id × Value)) : Prop :=
  ∃ es clock, w.heap[s]? = some (.map es clock) ∧ es.toList.map (fun e => (e.key, e.val)) = l.map (fun p => (idv p.1, p.2)) ∧ Stamped es clock ∧ (l.map Prod.fst).Nodup
theorem MapIs.lt {w : World} {s : Nat} {l : List (Id × Value)} (h : MapIs w s l) : s < w.heap.size := by
  obtain ⟨_, _, h, _⟩ := h; exact (Array.getElem?_eq_some_iff.1 h).1
theorem MapIs.kept {w w' : World} {s : Nat} {l : List (Id × Value)} (h : MapIs w s l) (k : w'.heap[s]? = w.heap[s]?) : MapIs w' s l := by
  obtain ⟨es, c, h1, h2, h3⟩ := h; exact ⟨es, c, k.trans h1, h2, h3⟩
theorem MapIs.made (w : World) : MapIs (w.alloc (.map #[] 0)) w.heap.size [] := ⟨#[], 0, heap_alloc_new w _, rfl, ⟨List.nodup_nil, fun x hx => by simp at hx⟩, List.nodup_nil⟩

theorem MapIs.look {w : World} {s : Nat} {l : List (Id × Value)} (h : MapIs w s l) {T E : TypeId} (hT : Tryz.prog.underlying T = some (.map 27 E)) {z : Value} (hz : (zeroValue E).run Tryz.prog w = .ok z w) (k : Id) (ok : Bool) :
    (Instr.lookup T (.map (some s)) (idv k) ok).run Tryz.prog w = .ok (if ok then .tuple #[(getKV k l).getD z, .bool (getKV k l).isSome] else (getKV k l).getD z) w := by
  obtain ⟨es, c, h1, h2, _⟩ := h
  have hg : (getObj s).run Tryz.prog w = .ok (.map es c) w := by simp [getObj, Sem.run, h1]
  have hf := run_findKey24 k w es.toList l h2
  have hc : (Instr.checkKey es.isEmpty 10000 27 (idv k)).run Tryz.prog w = .ok () w := Tryz.check27 _ _ _ _
  unfold Instr.lookup
  simp only [Sem.run_bind, run_underlying hT, Result.andThen_ok, hg, Sem.run_pure, hc, hf]
  rw [← findKV_get k l 0]
  cases findKV k l 0 with
  | none => cases ok <;> simp [hz]
  | some p => cases ok <;> simp

theorem findKV_none (k : Id) (l : List (Id × Value)) (i : Nat) (h : findKV k l i = none) (v : Value) : putKV k v l = l ++ [(k, v)] := by
  induction l generalizing i with
  | nil => rfl
  | cons p r ih =>
    obtain ⟨q, u⟩ := p
    unfold findKV at h
    split at h
    · cases h
    · rename_i hq
      simp only [putKV, if_neg hq, ih _ h, List.cons_append]
theorem findKV_some (k : Id) (l : List (Id × Value)) (i : Nat) {j : Nat} {u : Value} (h : findKV k l i = some (j, u)) (v : Value) : i ≤ j ∧ (j - i < l.length) ∧ (l[j - i]?).map (·.1) = some k ∧ putKV k v l = l.set (j - i) (k, v) := by
  induction l generalizing i with
  | nil => cases h
  | cons p r ih =>
    obtain ⟨q, u'⟩ := p
    unfold findKV at h
    split at h
    · rename_i hq
      cases h
      simp [putKV, hq]
    · rename_i hq
      obtain ⟨h1, h2, h3, h4⟩ := ih _ h
      have e : j - i = (j - (i + 1)) + 1 := by omega
      refine ⟨by omega, by simp; omega, ?_, ?_⟩
      · rw [e]; simpa using h3
      · rw [e]; simp only [putKV, if_neg hq, h4, List.set_cons_succ]

theorem putKV_keys (k : Id) (v : Value) (l : List (Id × Value)) : (putKV k v l).map Prod.fst = if k ∈ l.map Prod.fst then l.map Prod.fst else l.map Prod.fst ++ [k] := by
  induction l with
  | nil => rfl
  | cons p r ih =>
    obtain ⟨q, u⟩ := p
    simp only [putKV, List.map_cons, List.mem_cons]
    by_cases hq : q = k
    · rw [if_pos hq, if_pos (.inl hq.symm)]; simp
    · have hk : ¬ k = q := fun e => hq e.symm
      rw [if_neg hq, List.map_cons, ih]
      by_cases hm : k ∈ r.map Prod.fst
      · rw [if_pos hm, if_pos (.inr hm)]
      · rw [if_neg hm, if_neg (fun e => e.elim hk hm)]; rfl
theorem putKV_nodup {k : Id} {v : Value} {l : List (Id × Value)} (h : (l.map Prod.fst).Nodup) : ((putKV k v l).map Prod.fst).Nodup := by
  rw [putKV_keys]
  split
  · exact h
  · rename_i hk
    rw [List.nodup_append]
    refine ⟨h, by simp, fun a ha b hb e => ?_⟩
    simp only [List.mem_singleton] at hb
    exact hk (by rw [← hb, ← e]; exact ha)
theorem MapIs.update {w : World} {s : Nat} {l : List (Id × Value)} (h : MapIs w s l) {T E : TypeId} (hT : Tryz.prog.underlying T = some (.map 27 E)) (k : Id) (v : Value) :
    ∃ w', (Instr.mapUpdate T (.map (some s)) (idv k) v).run Tryz.prog w = .ok () w' ∧ MapIs w' s (putKV k v l) ∧ w.grownBy w' (some s) := by
  have hlt := h.lt
  obtain ⟨es, c, h1, h2, h3, h4⟩ := h
  have hg : (getObj s).run Tryz.prog w = .ok (.map es c) w := by simp [getObj, Sem.run, h1]
  have hf := run_findKey24 k w es.toList l h2
  have hc : (Instr.checkKey false 10000 27 (idv k)).run Tryz.prog w = .ok () w := Tryz.check27 _ _ _ _
  have hset : ∀ o : Obj, (setObj s o).run Tryz.prog w = .ok () { w with heap := w.heap.setIfInBounds s o } := fun o => by simp [setObj, Sem.run, h1]
  have hheap : ∀ o : Obj, ({ w with heap := w.heap.setIfInBounds s o } : World).heap[s]? = some o := fun o => by simp [hlt]
  have hgrow : ∀ o : Obj, w.grownBy { w with heap := w.heap.setIfInBounds s o } (some s) := fun o => ⟨rfl, rfl, rfl, by simp, fun j _ hne => by
    show (w.heap.setIfInBounds s o)[j]? = _
    rw [Array.getElem?_setIfInBounds_ne (fun e => hne (by rw [e]))]⟩
  unfold Instr.mapUpdate
  simp only [Sem.run_bind, run_underlying hT, Result.andThen_ok, hg, hc, hf]
  cases hk : findKV k l 0 with
  | none =>
    simp only [hset]
    refine ⟨_, rfl, ⟨_, _, hheap _, ?_, ?_, putKV_nodup h4⟩, hgrow _⟩
    · rw [findKV_none k l 0 hk v]
      simp [h2]
    · refine ⟨?_, ?_⟩
      · simp only [Array.toList_push, List.map_append, List.map_cons, List.map_nil]
        rw [List.nodup_append]
        refine ⟨h3.1, by simp, fun a ha b hb e => ?_⟩
        obtain ⟨x, hx, rfl⟩ := List.mem_map.1 ha
        simp only [List.mem_singleton] at hb
        have := h3.2 x hx
        omega
      · intro x hx
        simp only [Array.toList_push, List.mem_append, List.mem_singleton] at hx
        rcases hx with hx | rfl
        · have := h3.2 x hx; omega
        · simp
  | some p =>
    obtain ⟨j, u⟩ := p
    obtain ⟨_, hj, hjk, hput⟩ := findKV_some k l 0 hk v
    simp only [Nat.sub_zero] at hj hjk hput
    have hlen : es.toList.length = l.length := by have := congrArg List.length h2; simpa using this
    have hjs : j < es.size := by simpa using (by omega : j < es.toList.length)
    have hkey : es[j].key = idv k := by
      have := congrArg (fun x => x[j]?) h2
      simp only [List.getElem?_map] at this
      rw [Array.getElem?_toList, Array.getElem?_eq_getElem hjs] at this
      cases hl : l[j]? with
      | none => simp [hl] at this
      | some q =>
        rw [hl] at this hjk
        simp only [Option.map_some, Option.some.injEq, Prod.mk.injEq] at this hjk
        rw [this.1, hjk]
    have hstay : (Instr.keyThatStays (idv k) (idv k)).run Tryz.prog w = .ok (idv k) w := by
      unfold Instr.keyThatStays
      have : Instr.sameBits 10000 (idv k) (idv k) = true := by simp [Instr.sameBits, idv]
      rw [this]; rfl
    simp only [Array.getElem?_eq_getElem hjs, Option.map_some, Option.getD_some, hkey, Sem.run_bind, hstay, Result.andThen_ok, hset]
    have hborn : ∀ (L : List MapEntry) (i : Nat) (f : MapEntry → MapEntry), (∀ e, (f e).born = e.born) → (L.modify i f).map (·.born) = L.map (·.born) := by
      intro L i f hf
      apply List.ext_getElem?
      intro n
      simp only [List.getElem?_map, List.getElem?_modify]
      by_cases hn : i = n
      · subst hn
        cases hL : L[i]? with
        | none => simp
        | some e => simp [hf]
      · simp [hn]
    refine ⟨_, rfl, ⟨_, _, hheap _, ?_, ?_, putKV_nodup h4⟩, hgrow _⟩
    rotate_left
    · have hb := hborn es.toList j (fun e => { e with key := idv k, val := v }) (fun e => rfl)
      refine ⟨?_, fun x hx => ?_⟩
      · rw [Array.toList_modify, hb]; exact h3.1
      · rw [Array.toList_modify] at hx
        have := List.mem_map_of_mem (f := (·.born)) hx
        rw [hb] at this
        obtain ⟨y, hy, e⟩ := List.mem_map.1 this
        rw [← e]; exact h3.2 y hy
    rw [hput, Array.toList_modify]
    have hmod : ∀ (L : List MapEntry) (i : Nat) (f : MapEntry → MapEntry) (y : Value × Value), (∀ e, L[i]? = some e → ((f e).key, (f e).val) = y) →
        (L.modify i f).map (fun e => (e.key, e.val)) = (L.map (fun e => (e.key, e.val))).set i y := by
      intro L i f y hy
      apply List.ext_getElem?
      intro n
      simp only [List.getElem?_map, List.getElem?_modify, List.getElem?_set, List.length_map]
      by_cases hn : i = n
      · subst hn
        cases hL : L[i]? with
        | none => simp [List.getElem?_eq_none_iff.1 hL]
        | some e => simp [hy e hL, (List.getElem?_eq_some_iff.1 hL).1]
      · simp [hn]
    rw [hmod _ j _ (idv k, v) (fun e _ => rfl), h2, List.map_set]

@[go_sem ↓] theorem Tryz.eqlnil127 (w : World) (r : Option Nat) : (binOp .eql 127 (.map r) (.map none)).run Tryz.prog w = .ok (.bool r.isNone) w := run_eql_map_nil w _ _ _ r Tryz.underlying127
@[go_sem ↓] theorem Tryz.neqnil127 (w : World) (r : Option Nat) : (binOp .neq 127 (.map r) (.map none)).run Tryz.prog w = .ok (.bool !r.isNone) w := run_neq_map_nil w _ _ _ r Tryz.underlying127
@[go_sem ↓] theorem Tryz.eqlnil220 (w : World) (r : Option Nat) : (binOp .eql 220 (.map r) (.map none)).run Tryz.prog w = .ok (.bool r.isNone) w := run_eql_map_nil w _ _ _ r Tryz.underlying220
@[go_sem ↓] theorem Tryz.make127 (kd : IntKind) (n : Int) (w : World) : (Instr.makeMap 127 (some (.int kd n))).run Tryz.prog w = .ok (.map (some w.heap.size)) (w.alloc (.map #[] 0)) := by
  simp [Instr.makeMap, run_underlying Tryz.underlying127]; rfl
@[go_sem ↓] theorem Tryz.make220 (w : World) : (Instr.makeMap 220 none).run Tryz.prog w = .ok (.map (some w.heap.size)) (w.alloc (.map #[] 0)) := by
  simp [Instr.makeMap, run_underlying Tryz.underlying220]

/-- 'm[k] = v' at the operation, keyed by ids. -/
theorem wpList_mapUpdate_id (w : World) {ops : Array Oper} {rest : List Oper} {o : Oper} {a : Act} {Q : Exit → Act → World → Prop}
    (hg : o.guard = none) (m x v : Operand) (T : TypeId) (hop : o.op = Op.mapUpdate T m x v) (E : TypeId) (hT : Tryz.prog.underlying T = some (.map 27 E)) (s : Nat) (l : List (Id × Value))
    (hm : a.eval m = .map (some s)) (h : MapIs w s l) (k1 k2 : Int) (u : Value) (hx : a.eval x = .agg #[.int .i64 k1, .int .i64 k2]) (hv : a.eval v = u)
    (hK : ∀ w', MapIs w' s (putKV (k1, k2) u l) → w.grownBy w' (some s) → wpList Tryz.prog ops Q rest (a.put o.dst undef) w') :
    wpList Tryz.prog ops Q (o :: rest) a w := by
  refine wpList_plain hg fun K' hK' => ?_
  obtain ⟨w', hrun, r1, r2⟩ := h.update hT (k1, k2) u
  simp only [idv] at hrun
  unfold Oper.wp
  simp [execOp, hop, hm, hx, hv, hrun, Result.andThen]
  exact hK' _ _ (hK w' r1 r2)

end Go.Proofs.YtoicnghjjgkebaaGreatDoor
namespace Go.Proofs.YtoicnghjjgkebaaGreatDoor
open Go.RowKit



end Go.Proofs.YtoicnghjjgkebaaGreatDoor
namespace Go.Proofs.YtoicnghjjgkebaaGreatDoor
open Go.RowKit

/-! ### the lists -/
def aliveOf : List Id → List Bool → List Id
  | i :: is, b :: bs => if b then i :: aliveOf is bs else aliveOf is bs
  | _, _ => []
def aheadOf : List Bool → Nat → List Value
  | [], _ => []
  | b :: bs, c => .int .i64 c :: aheadOf bs (if b then c + 1 else c)
def spotsOf : List Id → Nat → List (Id × Value)
  | [], _ => []
  | i :: is, c => (i, .int .i64 c) :: spotsOf is (c + 1)
def boolCells (l : List Bool) : List Value := l.map .bool

/-- The five cells of an axis, and what hangs on them: ready or not. -/
structure AxisIs (w : World) (own : Tags) (t p : Nat) (ids : List Id) (live : List Bool) (vI vL vS vA vV : Value) : Prop where
  tag : own p = t
  blk : Blk w p 219 #[vI, vL, vS, vA, vV]
  rI : Row w own t 27 2 vI ids.length (idCells ids)
  rL : Row w own t 4 1 vL live.length (boolCells live)
structure Made (w : World) (own : Tags) (t : Nat) (ids : List Id) (live : List Bool) (vI : Value) (s g : Nat) (vV : Value) : Prop where
  tagS : own s = t
  map : MapIs w s (spotsOf ids 0)
  tagA : own g = t
  ahead : Blk w g 3 (aheadOf live 0).toArray
  rV : Row w own t 27 2 vV (aliveOf ids live).length (idCells (aliveOf ids live))
  ne : ∀ k, vI.ownBlock = some k → vV.ownBlock ≠ some k
def Ready (w : World) (own : Tags) (t p : Nat) (ids : List Id) (live : List Bool) : Prop :=
  ∃ vI vL s g vV, AxisIs w own t p ids live vI vL (.map (some s)) (.slice (some ⟨g, 0, none⟩) live.length live.length) vV ∧ Made w own t ids live vI s g vV
def Unready (w : World) (own : Tags) (t p : Nat) (ids : List Id) (live : List Bool) : Prop :=
  ∃ vI vL, AxisIs w own t p ids live vI vL (.map none) (.slice none 0 0) (.slice none 0 0)
structure AxisAt (w : World) (own : Tags) (t p : Nat) (ids : List Id) (live : List Bool) : Prop where
  len : live.length = ids.length
  le : ids.length ≤ 1000
  nodup : ids.Nodup
  nz : (0, 0) ∉ ids
  is : Ready w own t p ids live ∨ Unready w own t p ids live

section
variable {w w' : World} {own own' : Tags} {t p : Nat} {ids : List Id} {live : List Bool}
theorem AxisIs.keep {vI vL vS vA vV : Value} (h : AxisIs w own t p ids live vI vL vS vA vV) (k : Same t own w own' w') : AxisIs w' own' t p ids live vI vL vS vA vV :=
  ⟨(k p h.blk.lt h.tag).2, h.blk.kept (k p h.blk.lt h.tag).1, h.rI.keep k, h.rL.keep k⟩
theorem Made.keep {vI vV : Value} {s g : Nat} (h : Made w own t ids live vI s g vV) (k : Same t own w own' w') : Made w' own' t ids live vI s g vV :=
  ⟨(k s h.map.lt h.tagS).2, h.map.kept (k s h.map.lt h.tagS).1, (k g h.ahead.lt h.tagA).2, h.ahead.kept (k g h.ahead.lt h.tagA).1, h.rV.keep k, h.ne⟩
theorem Ready.keep (h : Ready w own t p ids live) (k : Same t own w own' w') : Ready w' own' t p ids live := by
  obtain ⟨vI, vL, s, g, vV, h1, h2⟩ := h
  exact ⟨vI, vL, s, g, vV, h1.keep k, h2.keep k⟩
theorem Unready.keep (h : Unready w own t p ids live) (k : Same t own w own' w') : Unready w' own' t p ids live := by
  obtain ⟨vI, vL, h1⟩ := h
  exact ⟨vI, vL, h1.keep k⟩
theorem AxisAt.keep (h : AxisAt w own t p ids live) (k : Same t own w own' w') : AxisAt w' own' t p ids live :=
  ⟨h.len, h.le, h.nodup, h.nz, h.is.imp (·.keep k) (·.keep k)⟩
end

theorem zero3 (w : World) : (zeroValue 3).run Tryz.prog w = .ok (.int .i64 0) w := by kernel_rfl
theorem zero4 (w : World) : (zeroValue 4).run Tryz.prog w = .ok (.bool false) w := by kernel_rfl

theorem getKV_spots (k : Id) (ids : List Id) (c : Nat) : getKV k (spotsOf ids c) = if k ∈ ids then some (.int .i64 ((c + ids.idxOf k : Nat) : Int)) else none := by
  induction ids generalizing c with
  | nil => simp [spotsOf, getKV]
  | cons x r ih =>
    simp only [spotsOf, getKV]
    by_cases hx : x = k
    · subst hx; simp
    · have hx' : k ≠ x := fun e => hx e.symm
      have : (x == k) = false := by simpa using hx
      rw [if_neg hx, ih]
      simp only [List.mem_cons, hx', false_or, List.idxOf_cons, this, cond_false]
      split
      · congr 3; omega
      · rfl


end Go.Proofs.YtoicnghjjgkebaaGreatDoor
namespace Go.Proofs.YtoicnghjjgkebaaGreatDoor
open Go.RowKit

theorem make71 (n : Nat) (hn : n ≤ 1000000) (w : World) : (Instr.makeSlice 109 (.int .i64 (n : Int)) (.int .i64 (n : Int))).run Tryz.prog w =
    .ok (.slice (some ⟨w.heap.size, 0, none⟩) n n) (w.alloc (.cells (Array.replicate n (.int .i64 0)) 3)) := by
  obtain ⟨i0, hi, hz0, hz1, hz2⟩ := info_parts Tryz.info3
  have h := run_make (P := Tryz.prog) w 109 3 i0 (.int .i64 0) Tryz.underlying109 hi hz0 .i64 .i64 n n (by omega) (by omega) (by rw [hz2]; omega) (by omega)
  rw [h]
  have e : madeCells (Value.cells (.int .i64 0)) (n * 1) = Array.replicate n (Value.int .i64 0) := by
    apply Array.ext
    · simp [size_madeCells]
    · intro j h1 h2
      have : j % 1 = 0 := Nat.mod_one _
      simp [madeCells, Value.cells, this]
  simp only [Int.toNat_natCast, hz1, e]

theorem aliveOf_snoc (ids : List Id) (live : List Bool) (h : live.length = ids.length) (k : Nat) (hk : k < ids.length) :
    aliveOf (ids.take (k + 1)) (live.take (k + 1)) = aliveOf (ids.take k) (live.take k) ++ (if live[k]'(by omega) then [ids[k]] else []) := by
  induction ids generalizing live k with
  | nil => simp at hk
  | cons x r ih =>
    cases live with
    | nil => simp at h
    | cons b bs =>
      cases k with
      | zero => simp [aliveOf]
      | succ k =>
        have := ih bs (by simpa using h) k (by simpa using hk)
        simp only [List.take_succ_cons, aliveOf, this, List.getElem_cons_succ]
        split <;> simp
theorem aheadOf_snoc (ids : List Id) (live : List Bool) (h : live.length = ids.length) (k : Nat) (hk : k < ids.length) (c : Nat) :
    aheadOf (live.take (k + 1)) c = aheadOf (live.take k) c ++ [.int .i64 ((c + (aliveOf (ids.take k) (live.take k)).length : Nat) : Int)] := by
  induction ids generalizing live k c with
  | nil => simp at hk
  | cons x r ih =>
    cases live with
    | nil => simp at h
    | cons b bs =>
      cases k with
      | zero => simp [aheadOf, aliveOf]
      | succ k =>
        have := ih bs (by simpa using h) k (by simpa using hk)
        simp only [List.take_succ_cons, aheadOf, aliveOf, this]
        cases b <;> simp <;> omega
theorem spotsOf_append (l m : List Id) (c : Nat) : spotsOf (l ++ m) c = spotsOf l c ++ spotsOf m (c + l.length) := by
  induction l generalizing c with
  | nil => rfl
  | cons x l ih => simp only [List.cons_append, spotsOf, ih, List.length_cons]; rw [show c + 1 + l.length = c + (l.length + 1) by omega]
theorem putKV_new {α : Type} (k : Id) (v : α) (l : List (Id × α)) (h : getKV k l = none) : putKV k v l = l ++ [(k, v)] := by
  induction l with
  | nil => rfl
  | cons p r ih =>
    obtain ⟨q, u⟩ := p
    simp only [getKV] at h
    split at h
    · cases h
    · rename_i hq; simp only [putKV, if_neg hq, ih h, List.cons_append]
theorem spots_put (ids : List Id) (hd : ids.Nodup) (k : Nat) (hk : k < ids.length) : putKV ids[k] (.int .i64 (k : Int)) (spotsOf (ids.take k) 0) = spotsOf (ids.take (k + 1)) 0 := by
  have hnot : ids[k] ∉ ids.take k := by
    intro hm
    obtain ⟨j, hj, e⟩ := List.mem_iff_getElem.1 hm
    have hjk : j < k := by simp at hj; omega
    rw [List.getElem_take] at e
    exact absurd ((List.getElem_inj hd).1 e) (by omega)
  rw [putKV_new _ _ _ (by rw [getKV_spots, if_neg hnot]), List.take_succ_eq_append_getElem hk, spotsOf_append]
  simp only [spotsOf, List.length_take]
  congr 3
  simp; omega
theorem length_aliveOf (ids : List Id) (live : List Bool) : (aliveOf ids live).length ≤ ids.length := by
  induction ids generalizing live with
  | nil => simp [aliveOf]
  | cons x r ih =>
    cases live with
    | nil => simp [aliveOf]
    | cons b bs => simp only [aliveOf]; have := ih bs; split <;> simp <;> omega
theorem length_aheadOf (live : List Bool) (c : Nat) : (aheadOf live c).length = live.length := by
  induction live generalizing c with
  | nil => rfl
  | cons b bs ih => simp [aheadOf, ih]
def aheadAt (live : List Bool) (n k : Nat) : Array Value := (aheadOf (live.take k) 0 ++ List.replicate (n - k) (Value.int .i64 0)).toArray

theorem Row.one_at {w : World} {own : Tags} {t : Nat} {e : TypeId} {b off n c : Nat} {l : List Value} (h : Row w own t e 1 (.slice (some ⟨b, off, none⟩) n c) n l) {i : Nat} (hi : i < l.length) : w.cell? ⟨b, off + i, none⟩ = some l[i] := by
  obtain ⟨b', off', e1, _, _, hc⟩ := h.toOnesR.2 (fun e => by rw [e] at hi; simp at hi)
  cases e1
  exact hc i hi
/-- What the loop of ready keeps: so many ids are in the map, so many numbers are told, so many ids are looked at. -/
structure RR (w : World) (own : Tags) (t p : Nat) (ids : List Id) (live : List Bool) (vI vL : Value) (s g : Nat) (km ka kv : Nat) (own1 : Tags) (vV : Value) (wr : World) : Prop where
  tr : Tr own t w own1 wr
  is : AxisIs wr own1 t p ids live vI vL (.map (some s)) (.slice (some ⟨g, 0, none⟩) live.length live.length) vV
  tagS : own1 s = t
  map : MapIs wr s (spotsOf (ids.take km) 0)
  tagA : own1 g = t
  ahead : Blk wr g 3 (aheadAt live live.length ka)
  rV : Row wr own1 t 27 2 vV (aliveOf (ids.take kv) (live.take kv)).length (idCells (aliveOf (ids.take kv) (live.take kv)))
  ne : ∀ j, vI.ownBlock = some j → vV.ownBlock ≠ some j

theorem Blk.ne_map {w : World} {g s : Nat} {e : TypeId} {cs : Array Value} {l : List (Id × Value)} (h : Blk w g e cs) (m : MapIs w s l) : g ≠ s := by
  rintro rfl
  obtain ⟨es, c, hm, _⟩ := m
  unfold Blk at h
  rw [h] at hm
  cases hm
theorem Blk.ne_type {w : World} {g g' : Nat} {e e' : TypeId} {cs cs' : Array Value} (h : Blk w g e cs) (h' : Blk w g' e' cs') (hne : e ≠ e') : g ≠ g' := by
  rintro rfl
  unfold Blk at h h'
  rw [h] at h'
  injection h' with h'
  injection h' with _ ht
  exact hne ht
theorem Row.blk {w : World} {own : Tags} {t : Nat} {e : TypeId} {size : Nat} {v : Value} {n : Nat} {xs : List Value} (h : Row w own t e size v n xs) {g : Nat} (hg : v.ownBlock = some g) : ∃ cs, Blk w g e cs := by
  rcases h.1.2 with ⟨hv, _⟩ | ⟨g', cap, cur, hv, _, hh, _⟩
  · rw [hv] at hg; simp [Value.ownBlock] at hg
  · rw [hv] at hg
    have : g' = g := by simpa [Value.ownBlock] using hg
    subst this
    exact ⟨cur, hh⟩
/-- A row stays while one block of another kind is turned. -/
theorem Row.grown {w w' : World} {own : Tags} {t : Nat} {e : TypeId} {size : Nat} {v : Value} {n : Nat} {xs : List Value} (h : Row w own t e size v n xs) {s : Nat} (hg : w.grownBy w' (some s)) (hne : ∀ g cs, Blk w g e cs → g ≠ s) : Row w' own t e size v n xs :=
  h.kept fun g hlt hv ho => by
    obtain ⟨cs, hb⟩ := h.blk hv
    exact ⟨hg.block g hlt (fun e => hne g cs hb (by injection e)), ho⟩
theorem Row.stored {w : World} {own : Tags} {t : Nat} {e : TypeId} {size : Nat} {v : Value} {n : Nat} {xs : List Value} (h : Row w own t e size v n xs) {p : Addr} (u : Value) (hne : ∀ g cs, Blk w g e cs → v.ownBlock = some g → g ≠ p.block) : Row (w.setCell p u) own t e size v n xs :=
  h.kept fun g hlt hv ho => by
    obtain ⟨cs, hb⟩ := h.blk hv
    exact ⟨Below.heap_setCell w p u g (hne g cs hb hv), ho⟩

section
variable {w : World} {own : Tags} {t p : Nat} {ids : List Id} {live : List Bool} {vI vL : Value} {s g : Nat} {km ka kv : Nat} {own1 : Tags} {vV : Value} {wr : World}
theorem RR.below {w1 : World} (r : RR w own t p ids live vI vL s g km ka kv own1 vV wr) (hb : Below wr.heap.size wr w1) : RR w own t p ids live vI vL s g km ka kv own1 vV w1 :=
  ⟨r.tr.below hb, r.is.keep (Same.below hb), r.tagS, r.map.kept (hb.block s r.map.lt), r.tagA, r.ahead.kept (hb.block g r.ahead.lt), r.rV.keep (Same.below hb), r.ne⟩
theorem RR.alloc (r : RR w own t p ids live vI vL s g km ka kv own1 vV wr) (o : Obj) : RR w own t p ids live vI vL s g km ka kv own1 vV (wr.alloc o) := r.below ((Below.refl _ _).alloc (Nat.le_refl _) o)
theorem RR.drew (r : RR w own t p ids live vI vL s g km ka kv own1 vV wr) : RR w own t p ids live vI vL s g km ka kv own1 vV wr.drew := r.below ((Below.refl _ _).drew)
theorem RR.put {w1 : World} (r : RR w own t p ids live vI vL s g km ka kv own1 vV wr) (hg : wr.grownBy w1 (some s)) {km' : Nat} (hm : MapIs w1 s (spotsOf (ids.take km') 0)) : RR w own t p ids live vI vL s g km' ka kv own1 vV w1 := by
  have ne : ∀ {g e cs}, Blk wr g e cs → g ≠ s := fun h => h.ne_map r.map
  have kb : ∀ {g e cs}, Blk wr g e cs → Blk w1 g e cs := fun h => h.kept (hg.block _ h.lt (fun e => ne h (by injection e)))
  exact ⟨r.tr.grown hg (fun k e => .inl (by cases e; exact r.tagS)), ⟨r.is.tag, kb r.is.blk, r.is.rI.grown hg (fun _ _ h => ne h), r.is.rL.grown hg (fun _ _ h => ne h)⟩,
    r.tagS, hm, r.tagA, kb r.ahead, r.rV.grown hg (fun _ _ h => ne h), r.ne⟩
theorem RR.tell (r : RR w own t p ids live vI vL s g km ka kv own1 vV wr) (u : Value) (hka : ka < live.length) (hu : aheadOf (live.take (ka + 1)) 0 = aheadOf (live.take ka) 0 ++ [u]) :
    RR w own t p ids live vI vL s g km (ka + 1) kv own1 vV (wr.setCell ⟨g, ka, none⟩ u) := by
  have nt : ∀ {g' e cs}, Blk wr g' e cs → e ≠ 3 → g' ≠ g := fun h he => h.ne_type r.ahead he
  have hlen : (aheadOf (live.take ka) 0).length = ka := by rw [length_aheadOf]; simp; omega
  refine ⟨r.tr.setCell (.inl r.tagA) u, ⟨r.is.tag, r.is.blk.far (nt r.is.blk (by decide)) u, r.is.rI.stored u (fun _ _ h _ => nt h (by decide)), r.is.rL.stored u (fun _ _ h _ => nt h (by decide))⟩,
    r.tagS, r.map.kept (Below.heap_setCell wr _ u s (fun e => r.ahead.ne_map r.map e.symm)), r.tagA, ?_, r.rV.stored u (fun _ _ h _ => nt h (by decide)), r.ne⟩
  have hs := r.ahead.store ka u
  have e : (aheadAt live live.length ka).setIfInBounds ka u = aheadAt live live.length (ka + 1) := by
    unfold aheadAt
    rw [hu, List.setIfInBounds_toArray]
    congr 1
    have hr : List.replicate (live.length - ka) (Value.int .i64 0) = Value.int .i64 0 :: List.replicate (live.length - (ka + 1)) (Value.int .i64 0) := by
      rw [← List.replicate_succ]; congr 1; omega
    rw [hr, List.set_append_right _ _ (by omega), hlen]
    simp
  rw [e] at hs
  exact hs
/-- An id more is alive: the append, and the store into the axis. -/
theorem RR.grow {w1 : World} {vV' : Value} (r : RR w own t p ids live vI vL s g km ka kv own1 vV wr) (hg : wr.grownBy w1 vV.ownBlock) {kv' : Nat}
    (hr : w1.ownsRow 0 27 2 vV' (aliveOf (ids.take kv') (live.take kv')).length (idCells (aliveOf (ids.take kv') (live.take kv')))) (hw : w.heap.size ≤ wr.heap.size) (hat : vV'.ownBlock = vV.ownBlock ∨ (vV'.ownBlock = some wr.heap.size ∧ wr.heap.size < w1.heap.size)) :
    ∃ own2, RR w own t p ids live vI vL s g km ka kv' own2 vV' (w1.setCell ⟨p, 4, none⟩ vV') := by
  have nt : ∀ {g' e cs}, Blk wr g' e cs → e ≠ 27 → some g' ≠ vV.ownBlock := fun h he hv => by
    obtain ⟨cs', hb⟩ := r.rV.blk hv.symm
    exact h.ne_type hb he rfl
  have kb : ∀ {g' e cs}, Blk wr g' e cs → e ≠ 27 → Blk w1 g' e cs := fun h he => h.kept (hg.block _ h.lt (nt h he))
  have tr1 : Tr own t w own1 w1 := r.tr.grown hg (fun k e => .inl (r.rV.2 k e))
  have nm : some s ≠ vV.ownBlock := fun hv => by
    obtain ⟨cs', hb⟩ := r.rV.blk hv.symm
    exact hb.ne_map r.map rfl
  have m1 : MapIs w1 s (spotsOf (ids.take km) 0) := r.map.kept (hg.block s r.map.lt nm)
  have rI1 : Row w1 own1 t 27 2 vI ids.length (idCells ids) := r.is.rI.kept fun k hlt hv ho => ⟨hg.block k hlt (fun e => r.ne k hv e.symm), ho⟩
  have rL1 : Row w1 own1 t 4 1 vL live.length (boolCells live) := r.is.rL.kept fun k hlt hv ho => by
    obtain ⟨cs', hb⟩ := r.is.rL.blk hv
    exact ⟨hg.block k hlt (nt hb (by decide)), ho⟩
  have p1 := kb r.is.blk (by decide)
  have a1 := kb r.ahead (by decide)
  -- the tags: a new block, or the old one
  obtain ⟨own2, tr2, hsame, hv2⟩ : ∃ own2, Tr own t w own2 w1 ∧ (∀ k, k < wr.heap.size → own2 k = own1 k) ∧ ∀ k, vV'.ownBlock = some k → own2 k = t := by
    rcases hat with hat | ⟨hat, hlt⟩
    · exact ⟨own1, tr1, fun _ _ => rfl, fun k hk => r.rV.2 k (hat ▸ hk)⟩
    · refine ⟨tagAt own1 wr.heap.size t, tr1.tag hw hlt t, fun k hk => by unfold tagAt; rw [if_neg (by omega)], fun k hk => ?_⟩
      rw [hat] at hk
      cases hk
      simp [tagAt]
  have lt1 : ∀ {g' e cs}, Blk wr g' e cs → own2 g' = own1 g' := fun h => hsame _ h.lt
  have sm : ∀ {v e size n xs}, Row w1 own1 t e size v n xs → (∀ k, v.ownBlock = some k → k < wr.heap.size) → Row w1 own2 t e size v n xs := fun h hk => h.kept fun k _ hv ho => ⟨rfl, by rw [hsame k (hk k hv), ho]⟩
  have rI2 := sm rI1 (fun k hk => (r.is.rI.1.lt k hk).2)
  have rL2 := sm rL1 (fun k hk => (r.is.rL.1.lt k hk).2)
  have np : ∀ {g' e cs}, Blk w1 g' e cs → e ≠ 219 → g' ≠ p := fun h he => h.ne_type p1 he
  refine ⟨own2, tr2.setCell (.inl (by show own2 p = t; rw [lt1 r.is.blk]; exact r.is.tag)) _, ⟨by rw [lt1 r.is.blk]; exact r.is.tag, ?_, rI2.stored _ (fun _ _ h _ => np h (by decide)), rL2.stored _ (fun _ _ h _ => np h (by decide))⟩,
    by rw [hsame s r.map.lt]; exact r.tagS, m1.kept (Below.heap_setCell w1 _ _ s (fun e => p1.ne_map m1 e.symm)), by rw [lt1 r.ahead]; exact r.tagA, a1.far (np a1 (by decide)) _, ?_, ?_⟩
  · exact p1.store 4 vV'
  · exact Row.stored ⟨hr, hv2⟩ _ (fun _ _ h _ => np h (by decide))
  · intro k hk
    rcases hat with hat | ⟨hat, _⟩
    · rw [hat]; exact r.ne k hk
    · rw [hat]
      have := (r.is.rI.1.lt k hk).2
      intro e; cases e; omega
end

theorem RR.pass {w : World} {own : Tags} {t p : Nat} {ids : List Id} {live : List Bool} {vI vL : Value} {s g : Nat} {km ka kv kv' : Nat} {own1 : Tags} {vV : Value} {wr : World} (r : RR w own t p ids live vI vL s g km ka kv own1 vV wr)
    (e : aliveOf (ids.take kv') (live.take kv') = aliveOf (ids.take kv) (live.take kv)) : RR w own t p ids live vI vL s g km ka kv' own1 vV wr :=
  ⟨r.tr, r.is, r.tagS, r.map, r.tagA, r.ahead, by rw [e]; exact r.rV, r.ne⟩
theorem RR.after {w w1 : World} {own : Tags} {t p : Nat} {ids : List Id} {live : List Bool} {vI vL : Value} {s g : Nat} {km ka kv : Nat} {own1 : Tags} {vV : Value} {wr : World} (r : RR w own t p ids live vI vL s g km ka kv own1 vV wr)
    (hg : wr.grownBy w1 vV.ownBlock) : Blk w1 p 219 #[vI, vL, .map (some s), .slice (some ⟨g, 0, none⟩) live.length live.length, vV] :=
  r.is.blk.kept (hg.block p r.is.blk.lt (fun hv => by
    obtain ⟨cs', hb⟩ := r.rV.blk hv.symm
    exact r.is.blk.ne_type hb (by decide) rfl))
theorem RR.start {w : World} {own : Tags} {t p : Nat} {ids : List Id} {live : List Bool} {vI vL : Value} (a : AxisIs w own t p ids live vI vL (.map none) (.slice none 0 0) (.slice none 0 0)) (hl : live.length = ids.length) :
    RR w own t p ids live vI vL w.heap.size (w.heap.size + 1) 0 0 0 (tagAt (tagAt own w.heap.size t) (w.heap.size + 1) t) (.slice none 0 0)
      ((((w.setCell ⟨p, 2, none⟩ (.map (some w.heap.size))).setCell ⟨p, 3, none⟩ (.slice (some ⟨w.heap.size + 1, 0, none⟩) ids.length ids.length)).alloc (.map #[] 0)).alloc (.cells (Array.replicate ids.length (.int .i64 0)) 3)) := by
  have hp := a.blk.lt
  generalize hw1 : (w.setCell ⟨p, 2, none⟩ (.map (some w.heap.size))).setCell ⟨p, 3, none⟩ (.slice (some ⟨w.heap.size + 1, 0, none⟩) ids.length ids.length) = w1
  have hs1 : w1.heap.size = w.heap.size := by rw [← hw1]; simp
  have b1 : Blk w1 p 219 #[vI, vL, .map (some w.heap.size), .slice (some ⟨w.heap.size + 1, 0, none⟩) ids.length ids.length, .slice none 0 0] := by
    rw [← hw1]; exact (a.blk.store 2 _).store 3 _
  have far : ∀ k, k ≠ p → w1.heap[k]? = w.heap[k]? := fun k hk => by
    rw [← hw1, Below.heap_setCell _ _ _ _ hk, Below.heap_setCell _ _ _ _ hk]
  have tr1 : Tr own t w own w1 := by rw [← hw1]; exact ((Tr.refl own t w).setCell (.inl a.tag) _).setCell (.inl a.tag) _
  have fr : ∀ {v e size n xs}, Row w own t e size v n xs → e ≠ 219 → Row w1 own t e size v n xs := fun h he => h.kept fun k _ hv ho => by
    obtain ⟨cs, hb⟩ := h.blk hv
    exact ⟨far k (hb.ne_type a.blk he), ho⟩
  clear hw1
  have rI1 := fr a.rI (by decide)
  have rL1 := fr a.rL (by decide)
  generalize hw3 : (w1.alloc (.map #[] 0)).alloc (.cells (Array.replicate ids.length (.int .i64 0)) 3) = w3
  have hs3 : w3.heap.size = w.heap.size + 2 := by rw [← hw3]; simp [hs1]
  have below : Below w1.heap.size w1 w3 := by rw [← hw3]; exact ((Below.refl _ _).alloc (Nat.le_refl _) _).alloc (by simp) _
  have hS : w3.heap[w.heap.size]? = some (.map #[] 0) := by
    rw [← hw3, Below.heap_alloc _ _ _ (by simp [hs1]), ← hs1]; exact heap_alloc_new w1 _
  have hA : Blk w3 (w.heap.size + 1) 3 (Array.replicate ids.length (.int .i64 0)) := by
    have := Blk.new (w1.alloc (.map #[] 0)) 3 (Array.replicate ids.length (.int .i64 0))
    rw [hw3] at this
    simpa [hs1] using this
  have own_old : ∀ k, k < w.heap.size → tagAt (tagAt own w.heap.size t) (w.heap.size + 1) t k = own k := fun k hk => by
    unfold tagAt; rw [if_neg (by omega), if_neg (by omega)]
  have sm : Same t own w1 (tagAt (tagAt own w.heap.size t) (w.heap.size + 1) t) w3 := fun k hk ho => ⟨below.block k hk, by rw [own_old k (by omega)]; exact ho⟩
  refine ⟨((tr1.below below).tag (Nat.le_refl _) (by omega) t).tag (by omega) (by omega) t, ⟨by rw [own_old p hp]; exact a.tag, ?_, rI1.keep sm, rL1.keep sm⟩, by simp [tagAt], ⟨#[], 0, hS, by simp [spotsOf], ⟨List.nodup_nil, fun x hx => by simp at hx⟩, by simp [spotsOf]⟩, by simp [tagAt], ?_, ?_, ?_⟩
  · rw [hl]; exact b1.kept (below.block p (by omega))
  · rw [hl]
    have : aheadAt live ids.length 0 = Array.replicate ids.length (.int .i64 0) := by simp [aheadAt, aheadOf]
    rw [this]; exact hA
  · simpa [aliveOf, idCells] using Row.nil w3 (tagAt (tagAt own w.heap.size t) (w.heap.size + 1) t) t 27 2
  · intro j _; simp [Value.ownBlock]

set_option maxRecDepth 100000 in
set_option maxHeartbeats 1000000 in
theorem ready_c (w : World) (own : Tags) (t p : Nat) (ids : List Id) (live : List Bool) (h : AxisAt w own t p ids live) :
    Calls Tryz.prog 119 #[.pointer (some ⟨p, 0, none⟩)] w fun e w' => e = .returned (.tuple #[]) ∧ ∃ own', Tr own t w own' w' ∧ Ready w' own' t p ids live := by
  rcases h.is with h1 | h1
  · obtain ⟨vI, vL, s, g, vV, a, m⟩ := id h1
    have c2 := a.blk.cell 2
    simp at c2
    have H1 := Lib.hid h1
    clear h1 a m h
    go_enter Tryz.func119, Tryz.ntmps119
    go_wp2
    exact bodyPost_none rfl rfl ⟨rfl, own, Tr.refl _ _ _, H1.out⟩
  · obtain ⟨vI, vL, a⟩ := h1
    obtain ⟨A, c, rfl, hm⟩ := a.rI.form
    have c0 := a.blk.cell 0
    have c1 := a.blk.cell 1
    have c2 := a.blk.cell 2
    have c3 := a.blk.cell 3
    have c4 := a.blk.cell 4
    have f2 := a.blk.frozen 2
    have f3 := a.blk.frozen 3
    have hp := a.blk.lt
    have hle := h.le
    have hmk := make71 ids.length (by omega)
    simp at c0 c1 c2 c3 c4
    have H := Lib.hid h
    have Ha := Lib.hid a
    clear h a hm
    go_enter Tryz.func119, Tryz.ntmps119
    go_wp2
    have hstart := Lib.hid (RR.start Ha.out H.out.len)
    go_loopw [32] (fun i wr => ∃ (k : Nat) (own1 : Tags) (vV : Value), k ≤ ids.length ∧ i = .int .i64 k ∧ RR w own t p ids live (.slice A ids.length c) vL w.heap.size (w.heap.size + 1) k k k own1 vV wr) (fun i _ => ids.length - (intOf i).toNat)
    case atStart => exact ⟨0, _, _, Nat.zero_le _, rfl, hstart.out⟩
    case round =>
      clear hstart c0 c1 c2 c3 c4 f2 f3 hmk
      obtain ⟨k, own1, vV, hk, rfl, r⟩ := hrel
      by_cases hlt : k < ids.length
      · have hll := H.out.len
        obtain ⟨b, off, rfl, _, _, hc⟩ := r.is.rI.toIdsR.2 (fun e => by rw [e] at hlt; simp at hlt)
        obtain ⟨AL, cL, rfl, hmL⟩ := r.is.rL.form
        obtain ⟨bL, offL, rfl, _, _, hcL⟩ := r.is.rL.toOnesR.2 (fun e => by have h0 : live.length = 0 := by simpa [boolCells] using congrArg List.length e
                                                                            omega)
        obtain ⟨g1, g2⟩ := hc k hlt
        have g3 := hcL k (by simp [boolCells]; omega)
        obtain ⟨AV, cV, rfl, hmV⟩ := r.rV.form
        have c0 := r.is.blk.cell 0
        have c1 := r.is.blk.cell 1
        have c2 := r.is.blk.cell 2
        have c3 := r.is.blk.cell 3
        have c4 := r.is.blk.cell 4
        have f4 := r.is.blk.frozen 4
        have hpw := r.is.blk.lt
        simp at c0 c1 c2 c3 c4
        simp only [boolCells, List.getElem_map] at g3
        have HNV : Hid (some wr.heap.size ≠ (Value.slice AV (aliveOf (ids.take k) (live.take k)).length cV).ownBlock) := fun e => by have := (r.rV.1.lt _ e.symm).2; omega
        have R := Lib.hid r
        clear r hc hcL hmL hmV
        have E1 := Lib.hid (aliveOf_snoc ids live hll k hlt)
        have E2 := Lib.hid (aheadOf_snoc ids live hll k hlt 0)
        have E3 := Lib.hid (spots_put ids H.out.nodup k hlt)
        generalize ids[k] = z at *
        generalize hlv : live[k]'(by omega) = lv at *
        have Hlv : Hid (∃ h, live[k]'h = lv) := ⟨by omega, hlv⟩
        clear hlv
        have hbL : bL < w.heap.size := (Ha.out.rL.1.lt bL rfl).2
        have Hll := Lib.hid hll
        clear hll
        obtain ⟨z1, z2⟩ := z
        dsimp only at g1 g2
        go_wp2
        refine region_tail 6 (by kernel_rfl) (by kernel_rfl) ?_
        simp only [List.take_succ_cons, List.take_zero, List.drop_succ_cons, List.drop_zero]
        repeat (go_big_quiet_step (fail))
        refine wpQuiet_nil ?_
        have hbox := Lib.hid (Blk.new wr 27 #[.int .i64 z1, .int .i64 z2])
        go_wp2_with (at_mapUpdate; refine wpList_mapUpdate_id _ rfl _ _ _ 127 rfl 3 Tryz.underlying127 w.heap.size _ rfl ((R.out.alloc _).drew.map) z1 z2 (.int .i64 k) rfl rfl ?_; intro w1 hm1 hg1)
        have HW : Hid (w.heap.size + 1 < wr.heap.size) := by have := R.out.ahead.lt; exact this
        have r1 := (R.out.alloc _).drew.put hg1 (km' := k + 1) (by rw [← E3.out]; exact hm1)
        have hb1 := hbox.out.kept (hg1.block wr.heap.size (by simp) (fun e => hbox.out.ne_map ((R.out.alloc _).map) (by injection e)))
        clear c0 c1 c2 c3 c4 f4 hpw g1 g2 g3 R hm1 hg1 hbox
        have c1 := r1.is.blk.cell 1
        have c3 := r1.is.blk.cell 3
        have c4 := r1.is.blk.cell 4
        have a1 := r1.ahead.cell k
        have a2 := r1.ahead.frozen k
        have g3 := r1.is.rL.one_at (i := k) (by simp [boolCells]; rw [Hll.out]; exact hlt)
        have hltl : (k : Int) < (live.length : Int) := by rw [Hll.out]; omega
        have hk0 : (0 : Int) ≤ (k : Int) := by omega
        simp at c1 c3 c4
        have a1' : ∃ old, w1.cell? ⟨w.heap.size + 1, k, none⟩ = some old := by
          rw [a1]; refine ⟨_, Array.getElem?_eq_getElem ?_⟩
          simp only [aheadAt, List.size_toArray, List.length_append, length_aheadOf, List.length_take, List.length_replicate]; omega
        obtain ⟨old, a1'⟩ := a1'
        clear a1
        simp only [boolCells, List.getElem_map] at g3
        obtain ⟨hlv1, hlv2⟩ := Hlv.out
        rw [hlv2] at g3
        clear hlv2
        have R := Lib.hid r1
        have HB := Lib.hid hb1
        clear r1 hb1
        simp only [Act.put, List.setIfInBounds_toArray, List.set_cons_succ, List.set_cons_zero]
        refine region_tail 11 (by kernel_rfl) (by kernel_rfl) ?_
        simp only [List.take_succ_cons, List.take_zero, List.drop_succ_cons, List.drop_zero]
        repeat (go_big_quiet_step (fail))
        refine wpQuiet_nil ?_
        have htell := Lib.hid (R.out.tell (.int .i64 ((aliveOf (ids.take k) (live.take k)).length : Int)) (by rw [Hll.out]; exact hlt) (by rw [E2.out]; simp))
        have hsz := R.out.tr.size
        cases lv
        · go_wp2
          go_roundw
          case rel => exact ⟨k + 1, own1, _, by omega, by go_num, (htell.out.drew).pass (by rw [E1.out]; simp)⟩
          case measure => simp [intOf]; omega
        · have b1 := HB.out.cell 0
          have b2 := HB.out.cell 1
          have hbx := HB.out.lt
          have hwr : w.heap.size + 1 < wr.heap.size := HW.out
          simp at b1 b2
          go_wp2
          have r2 := htell.out.drew
          have hb2 : Blk ((w1.setCell ⟨w.heap.size + 1, k, none⟩ (.int .i64 ((aliveOf (ids.take k) (live.take k)).length : Int))).drew) wr.heap.size 27 #[.int .i64 z1, .int .i64 z2] := HB.out.far (p := ⟨w.heap.size + 1, k, none⟩) (by show wr.heap.size ≠ w.heap.size + 1; omega) _
          clear htell HB R b1 b2 hbx c1 c3 c4 a1' a2 g3 hsz
          generalize (w1.setCell ⟨w.heap.size + 1, k, none⟩ (.int .i64 ((aliveOf (ids.take k) (live.take k)).length : Int))).drew = W2 at r2 hb2 ⊢
          have b1 := hb2.cell 0
          have b2 := hb2.cell 1
          have c4 := r2.is.blk.cell 4
          simp at b1 b2 c4
          have HR := Lib.hid r2
          have HBX := Lib.hid hb2
          have HNE : Hid (some wr.heap.size ≠ (Value.slice AV (aliveOf (ids.take k) (live.take k)).length cV).ownBlock) := HNV.out
          clear r2 hb2
          refine region_held [(⟨p, 4, none⟩, .slice AV (aliveOf (ids.take k) (live.take k)).length cV), (⟨wr.heap.size, 0, none⟩, .int .i64 z1), (⟨wr.heap.size, 1, none⟩, .int .i64 z2)] 6 2 (by kernel_rfl) (by kernel_rfl) (fun _ _ _ _ _ h => h) ⟨c4, b1, b2, trivial⟩ ?_
          intro hne hu
          simp only [AllCells] at hu
          simp only [List.take_succ_cons, List.take_zero, List.drop_succ_cons, List.drop_zero, tailWp]
          repeat (go_big_quiet_step (fail))
          refine wpQuiet_nil ?_
          obtain ⟨i0, hi, hz0, hz1, hz2⟩ := info_parts Tryz.info27
          have hal : (aliveOf (ids.take k) (live.take k)).length ≤ 1000 := Nat.le_trans (length_aliveOf _ _) (by simp; omega)
          have r3 := Lib.hid ((HR.out.alloc (.cells #[.int .i64 z1, .int .i64 z2] 27)).drew)
          go_wp2_with fail
          refine And.intro (by refine AllCells.drew (AllCells.alloc ?_ _); exact ⟨c4, b1, b2, trivial⟩) ?_
          refine wpList_append_lies _ rfl _ _ _ rfl 0 27 i0 _ 2 16 Tryz.underlying46 hi hz0 hz1 hz2 rfl (by omega) _ _ _ rfl r3.out.rV.1 ⟨W2.heap.size, 0, none⟩ 1 1 [.int .i64 z1, .int .i64 z2] rfl rfl (World.news_of_block (cs := #[.int .i64 z1, .int .i64 z2]) (t := 27) (fr := (0, 0)) (heap_alloc_new W2 _)) (by simp [Value.oneCell']) (by omega) (by simp only [maxLen]; omega) (by omega) (Nat.zero_le _) (W2.heap.size + 1) (by simp) ?_
          intro gg cap w2 hown2 hgrow hat hlt2
          have hp2 := r3.out.after hgrow
          have c4' := hp2.cell 4
          have f4' := hp2.frozen 4
          have hb2 : Blk w2 wr.heap.size 27 #[.int .i64 z1, .int .i64 z2] := HBX.out.alloc _ |>.kept (hgrow.block wr.heap.size (by have := HBX.out.lt; simp; omega) (HNE.out))
          have b1' := hb2.cell 0
          have b2' := hb2.cell 1
          simp at c4' b1' b2'
          clear hp2 hb2
          refine And.intro ⟨c4', b1', b2', trivial⟩ ?_
          obtain ⟨own2, R4⟩ := r3.out.grow hgrow (kv' := k + 1) (vV' := .slice (some ⟨gg, 0, none⟩) ((aliveOf (ids.take k) (live.take k)).length + 1) cap) (by rw [E1.out, idCells_append, List.length_append]; simpa [idCells] using hown2) (by have := HR.out.tr.size; simp; omega) (by
            rcases hat with hat | hat
            · exact .inl hat.symm
            · right; simp only [World.size_drew, World.size_alloc]; rw [hat] at hlt2 ⊢; exact ⟨rfl, hlt2⟩)
          have R5 := Lib.hid R4
          clear R4 hown2 hgrow hat hlt2 hi hz0 hz1 hz2
          go_wp2
          go_roundw
          case rel => exact ⟨k + 1, own2, _, by omega, by go_num, R5.out⟩
          case measure => simp [intOf]; omega
      · have hkk : k = ids.length := by omega
        have hll := H.out.len
        have hr := Lib.hid r
        clear r
        go_wp2
        go_end0
        have r := hr.out
        subst hkk
        have e1 : live.take ids.length = live := by rw [← hll]; exact List.take_length
        have e0 : ids.take ids.length = ids := List.take_length
        refine ⟨rfl, own1, r.tr, _, _, _, _, _, r.is, ⟨r.tagS, ?_, r.tagA, ?_, ?_, r.ne⟩⟩
        · have := r.map; rwa [e0] at this
        · have := r.ahead
          have e2 : aheadAt live live.length ids.length = (aheadOf live 0).toArray := by simp [aheadAt, e1, hll]
          rwa [e2] at this
        · have := r.rV; rwa [e0, e1] at this
end Go.Proofs.YtoicnghjjgkebaaGreatDoor
