/-
  The abstract machine's operations, first part: what it answers is what the model's operations answer. No condition.
-/
import Derived.Test.YtccnkkffeokgcaaGreatDoorV3
import Derived.Laws.Entries
namespace Go.Proofs.YtccnkkffeokgcaaGreatDoor
namespace AM
open Go.RowKit

/-- A computation that asks nothing of memory. -/
def pureRun {α : Type} (P : Program) : Sem α → Option α
  | .pure a => some a
  | .program k => pureRun P (k P)
  | .mark _ k => pureRun P k
  | _ => none
theorem pureRun_ok {α : Type} {P : Program} {s : Sem α} {r : α} (h : pureRun P s = some r) (w : World) : s.run P w = .ok r w := by
  induction s with
  | pure a => simp only [pureRun] at h; cases h; rfl
  | program k ih => simp only [pureRun] at h; simp only [Sem.run]; exact ih P h
  | mark m k ih => simp only [pureRun] at h; simp only [Sem.run]; exact ih h
  | _ => simp [pureRun] at h
def isScalar : Value → Bool
  | .bool _ | .int _ _ | .string _ => true
  | _ => false
theorem VR.scalar {μ : Mp} {v v' : Value} (h : VR μ v v') (hs : isScalar v = true) : v' = v := by
  cases h <;> first | rfl | simp [isScalar] at hs
theorem VR.of_scalar (μ : Mp) {v : Value} (hs : isScalar v = true) : VR μ v v := by
  cases v <;> first | (simp [isScalar] at hs; done) | constructor

/-- Slots. -/
def TR (μ : Mp) (T : Nat → Option Value) (a : Array Value) : Prop := ∀ t v, T t = some v → ∃ v', a[t]? = some v' ∧ VR μ v v'
theorem TR.mono {μ ν : Mp} (h : μ.le ν) {T : Nat → Option Value} {a : Array Value} (r : TR μ T a) : TR ν T a := fun t v e => let ⟨v', h1, h2⟩ := r t v e; ⟨v', h1, h2.mono h⟩
def aeval (T : Nat → Option Value) : Operand → Option Value
  | .tmp t => T t
  | .const v => bif cval 6 v then some v else none
  | .global g => bif Nat.blt g glob then some (.pointer (some ⟨g, 0, none⟩)) else none
  | .func f => some (.func (.func f) #[] #[])
theorem aeval_ok {μ : Mp} {T : Nat → Option Value} {a : Act} (h : TR μ T a.tmps) {x : Operand} {v : Value} (e : aeval T x = some v) : VR μ v (a.eval x) := by
  cases x with
  | tmp t =>
    obtain ⟨v', h1, h2⟩ := h t v e
    show VR μ v (a.tmps.getD t undef)
    rw [Array.getD_eq_getD_getElem?, h1]; exact h2
  | const c =>
    simp only [aeval] at e
    cases hc : cval 6 c with
    | false => rw [hc] at e; cases e
    | true => rw [hc] at e; cases e; exact cval_ok μ 6 v hc
  | global g =>
    simp only [aeval] at e
    cases hb : Nat.blt g glob with
    | false => rw [hb] at e; cases e
    | true =>
      rw [hb] at e; cases e
      obtain ⟨s, hs⟩ := μ.gl g (Nat.le_of_ble_eq_true hb)
      exact .ptr 0 hs
  | func f => cases e; exact .func f rfl (by simp) rfl (by simp)

/-- The model answers v, or something like it. -/
def GotV (P : Program) (s : Sem Value) (μ : Mp) (w0 : Base) (w : World) (v : Value) (H' : AH) : Prop :=
  ∃ ν v' w', s.run P w = .ok v' w' ∧ μ.le ν ∧ Rel ν H' w0 w' ∧ VR ν v v'
def Got (P : Program) (s : Sem Next) (μ : Mp) (w0 : Base) (w : World) (v : Value) (H' : AH) : Prop :=
  ∃ ν n v' w', s.run P w = .ok n w' ∧ (n = .value v' ∨ (n = .skip ∧ v' = undef)) ∧ μ.le ν ∧ Rel ν H' w0 w' ∧ VR ν v v'
theorem GotV.val {P : Program} {s : Sem Value} {μ : Mp} {w0 : Base} {w : World} {v : Value} {H' : AH} (h : GotV P s μ w0 w v H') : Got P (do pure (.value (← s))) μ w0 w v H' := by
  obtain ⟨ν, v', w', h1, h2, h3, h4⟩ := h
  exact ⟨ν, _, v', w', by simp [h1], .inl rfl, h2, h3, h4⟩
theorem GotV.pure {P : Program} {s : Sem Value} {μ : Mp} {H : AH} {w0 : Base} {w : World} {v v' : Value} (h : Rel μ H w0 w) (hr : s.run P w = .ok v' w) (hv : VR μ v v') : GotV P s μ w0 w v H := ⟨μ, v', w, hr, .refl μ, h, hv⟩
section
variable {P : Program} {E : Env} {μ : Mp} {H : AH} {w0 : Base} {w : World}
theorem run_und (hE : E.Ok P) {t : Nat} {d : TypeDesc} (h : E.und t = some d) (w : World) : (underlying t).run P w = .ok d w := run_underlying (hE.und _ _ h) w
theorem run_info (hE : E.Ok P) {t : Nat} {i : TypeInfo} (h : E.info t = some i) (w : World) : (typeInfo t).run P w = .ok i w := by
  simp only [typeInfo, Sem.run_bind, program, Sem.run, Result.andThen_ok, hE.info _ _ h]
  rfl
theorem run_size (hE : E.Ok P) {t : Nat} {i : TypeInfo} (h : E.info t = some i) (w : World) : (sizeOf t).run P w = .ok i.size w := by
  simp only [Go.sizeOf, Sem.run_bind, run_info hE h, Result.andThen_ok]
  rfl
theorem run_zero (hE : E.Ok P) {t : Nat} {i : TypeInfo} (h : E.info t = some i) {z : Value} (hz : i.zero = some z) (w : World) : (zeroValue t).run P w = .ok z w := by
  simp only [zeroValue, Sem.run_bind, run_info hE h, Result.andThen_ok, hz]
  rfl
def isAggB : TypeDesc → Bool
  | .struct _ | .array _ _ => true
  | _ => false
theorem run_isAgg (hE : E.Ok P) {t : Nat} {d : TypeDesc} (h : E.und t = some d) (w : World) : (isAgg t).run P w = .ok (isAggB d) w := by
  simp only [isAgg, Sem.run_bind, run_und hE h, Result.andThen_ok]
  cases d <;> rfl

/-- Cells that are read. -/
def aload (E : Env) (H : AH) (t : Nat) : Value → Option Value
  | .pointer (some ⟨k, o, none⟩) => match H.t.get k, E.und t, E.info t with
    | some (.cells c _ _ _), some d, some i => bif isAggB d then (bif Nat.ble (o + i.size) c.length then some (.agg ((c.drop o).take i.size).toArray) else none) else c[o]?
    | _, _, _ => none
  | _ => none
theorem aload_ok (hE : E.Ok P) (h : Rel μ H w0 w) {t : Nat} {x x' v : Value} (hx : VR μ x x') (e : aload E H t x = some v) : GotV P (Instr.loadAt t x') μ w0 w v H := by
  cases hx with
  | @ptr k g s o hm =>
    simp only [aload] at e
    cases hk : H.t.get k with
    | none => simp [hk] at e
    | some b =>
      cases b with
      | cells c el x rw =>
        cases hu : E.und t with
        | none => simp [hk, hu] at e
        | some d =>
          cases hi : E.info t with
          | none => simp [hk, hu, hi] at e
          | some i =>
            simp only [hk, hu, hi] at e
            cases ha : isAggB d with
            | true =>
              simp only [ha, cond_true] at e
              cases hb : Nat.ble (o + i.size) c.length with
              | false => simp [hb] at e
              | true =>
                simp only [hb, cond_true] at e
                cases e
                obtain ⟨r, hr, har⟩ := h.loads (P := P) hk hm i.size 0 o #[] #[] (by have := Nat.le_of_ble_eq_true hb; simpa using this) ⟨rfl, by simp⟩
                refine .pure h (v' := .agg r) ?_ ?_
                · simp only [Instr.loadAt, Instr.sureAddr, Sem.run_bind, Sem.run_pure, Result.andThen_ok, loadVar, run_isAgg hE hu, ha, if_true, run_size hE hi, loadCells, hr]
                · simp only [Nat.add_zero, Array.empty_append] at har
                  exact .agg har.1 har.2
            | false =>
              simp only [ha, cond_false] at e
              obtain ⟨v', hc, hv⟩ := h.cell hk hm e
              refine .pure h (v' := v') ?_ hv
              simp only [Instr.loadAt, Instr.sureAddr, Sem.run_bind, Sem.run_pure, Result.andThen_ok, loadVar, run_isAgg hE hu, ha, Bool.false_eq_true, if_false, run_load, hc]
      | _ => simp [hk] at e
  | _ => simp [aload] at e
/-- Cells that are written. -/
def astore (E : Env) (H : AH) (t : Nat) (v : Value) : Value → Option AH
  | .pointer (some ⟨k, o, none⟩) => match H.t.get k, E.info t with
    | some (.cells c el x true), some i => bif Nat.beq i.size v.cells.toList.length && Nat.ble (o + i.size) c.length && v.cells.toList.all (·.oneCell') then some (H.put k (.cells (setRange c o v.cells.toList) el x true)) else none
    | _, _ => none
  | _ => none
theorem astore_ok (hE : E.Ok P) (h : Rel μ H w0 w) {t : Nat} {x x' v v' : Value} {H' : AH} (hx : VR μ x x') (hv : VR μ v v') (e : astore E H t v x = some H') :
    ∃ w', (Instr.storeAt t x' v').run P w = .ok () w' ∧ Rel μ H' w0 w' := by
  cases hx with
  | @ptr k g s o hm =>
    simp only [astore] at e
    cases hk : H.t.get k with
    | none => simp [hk] at e
    | some b =>
      cases b with
      | cells c el x rw =>
        cases rw with
        | false => simp [hk] at e
        | true =>
          cases hi : E.info t with
          | none => simp [hk, hi] at e
          | some i =>
            simp only [hk, hi] at e
            cases hb : (Nat.beq i.size v.cells.toList.length && Nat.ble (o + i.size) c.length && v.cells.toList.all (·.oneCell')) with
            | false => rw [hb] at e; cases e
            | true =>
              rw [hb] at e
              simp only [cond_true, Option.some.injEq] at e
              subst e
              simp only [Bool.and_eq_true] at hb
              obtain ⟨⟨b1, b2⟩, b3⟩ := hb
              have b1 := Nat.eq_of_beq_eq_true b1
              have b2 := Nat.le_of_ble_eq_true b2
              have hl := hv.cells
              obtain ⟨w', hw, hr⟩ := Rel.stores (P := P) hm v.cells.toList v'.cells.toList H c w 0 o h hk hl b3 (by omega)
              refine ⟨w', ?_, by simpa using hr⟩
              have hs : v'.cells.size = i.size := by have := hl.1; simp at this b1; omega
              simp only [Instr.storeAt, Instr.sureAddr, Sem.run_bind, Sem.run_pure, Result.andThen_ok, storeVar, run_size hE hi, hs, ne_eq, not_true_eq_false, if_false, hw]
              first | done | rfl
      | _ => simp [hk] at e
  | _ => simp [astore] at e
/-- New cells. -/
def anew (H : AH) (t : Nat) (c : List Value) : Option (Value × AH) :=
  bif Nat.blt (H.next + 1) 1099511627776 then some (.pointer (some ⟨H.next, 0, none⟩), H.alloc (.cells c t true true)) else none
theorem anew_ok (h : Rel μ H w0 w) {t : Nat} {c : List Value} {v : Value} {H' : AH} {c' : Array Value} (hc : LR μ c c'.toList) (e : anew H t c = some (v, H')) : GotV P (do pure (.pointer (some (← newRow t c')))) μ w0 w v H' := by
  unfold anew at e
  cases hb : Nat.blt (H.next + 1) 1099511627776 with
  | false => rw [hb] at e; cases e
  | true =>
    rw [hb] at e
    cases e
    have hn : H.next + 1 < 2 ^ 40 := by have := Nat.le_of_ble_eq_true hb; simp at this; omega
    obtain ⟨ν, n1, n2, n3⟩ := h.alloc hn (b := .cells c t true true) (o := .cells c' t) (s := c'.size)
      ⟨c', (0, 0), t, rfl, rfl, fun _ => ⟨rfl, .inl rfl⟩, fun _ => by have := hc.1; simp at this; omega, by have := hc.1; simp at this; omega, fun i u hu => by
        have hi : i < c.length := by
          rcases Nat.lt_or_ge i c.length with k | k
          · exact k
          · rw [List.getElem?_eq_none k] at hu; cases hu
        have hi' : i < c'.size := by have := hc.1; simp at this; omega
        exact ⟨c'[i], Array.getElem?_eq_getElem hi', hc.2 i u _ hu (by simp [hi'])⟩⟩
    refine ⟨ν, .pointer (some ⟨w.heap.size, 0, none⟩), w.alloc (.cells c' t), ?_, n1, n3, .ptr 0 n2⟩
    simp only [newRow, newObj, Sem.run_bind, Sem.run, Result.andThen_ok]
    rfl
end
end AM
end Go.Proofs.YtccnkkffeokgcaaGreatDoor
