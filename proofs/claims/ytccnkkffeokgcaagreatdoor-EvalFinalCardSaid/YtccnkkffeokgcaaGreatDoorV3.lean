/-
  The abstract machine: what it knows of types and functions; operands; cells read and written. No condition.
-/
import Derived.Test.YtccnkkffeokgcaaGreatDoorV2
import Derived.Laws.Cells
import Derived.Laws.IdiomCopy
namespace Go.Proofs.YtccnkkffeokgcaaGreatDoor
namespace AM
open Go.RowKit

/-- What is known of a program. -/
structure Env where
  info : Nat → Option TypeInfo
  und : Nat → Option TypeDesc
  fn : Nat → Option Func
  globs : Nat
  ext : Nat → Option (Array Value → Sem Value) := fun _ => none
  idf : Nat → Bool := fun _ => false
structure Env.Ok (E : Env) (P : Program) : Prop where
  info : ∀ t i, E.info t = some i → P.info? t = some i
  und : ∀ t d, E.und t = some d → P.underlying t = some d
  fn : ∀ f n, E.fn f = some n → P.funcs[f]? = some n ∧ (n.name == "runtime.NumGoroutine") = false
  ext : ∀ f e, E.ext f = some e → ∀ args w, (callFunc f args).run P w = (do pure (.value (← e args)) : Sem Next).run P w
  idf : ∀ f, E.idf f = true → ∀ v w, (callFunc f #[v]).run P w = .ok (.value v) w
def Gl (n : Nat) (μ : Mp) : Prop := ∀ g, g < n → ∃ s, μ g = some (g, s)
theorem Gl.mono {n : Nat} {μ ν : Mp} (h : Gl n μ) (k : μ.le ν) : Gl n ν := fun g hg => let ⟨s, e⟩ := h g hg; ⟨s, k.sub _ _ e⟩

theorem Rel.congr {μ : Mp} {H K : AH} {w0 : Base} {w : World} (h : Rel μ H w0 w) (he : ∀ j, K.t.get j = H.t.get j) (hn : K.next = H.next) : Rel μ K w0 w :=
  ⟨h.os, h.tape, h.output, h.size, h.keep, by rw [hn]; exact h.small, by rw [hn]; exact h.num, fun k b hk => h.lies k b (by rw [← he]; exact hk), fun k j b c hk hj => h.apart k j b c (by rw [← he]; exact hk) (by rw [← he]; exact hj), fun k b hk => h.ro k b (by rw [← he]; exact hk)⟩
theorem VR.oneCell {μ : Mp} {v v' : Value} (h : VR μ v v') : v'.oneCell' = v.oneCell' := by cases h <;> rfl
theorem VR.cells {μ : Mp} {v v' : Value} (h : VR μ v v') : LR μ v.cells.toList v'.cells.toList := by
  have h0 := h
  cases h with
  | agg h1 h2 => exact AR.toList ⟨h1, h2⟩
  | _ => exact LR.cons h0 (.nil _)

/-- Values without blocks. -/
def cval : Nat → Value → Bool
  | 0, _ => false
  | n + 1, v => match v with
    | .bool _ | .int _ _ | .string _ | .pointer none | .slice none _ _ | .map none | .nilFunc | .nilIface => true
    | .iface _ v => cval n v
    | .func (.func _) a c => a.toList.isEmpty && c.toList.isEmpty
    | .agg cs => cs.toList.all (cval n)
    | .tuple cs => cs.toList.all (cval n)
    | _ => false
theorem cval_row (μ : Mp) {n : Nat} (ih : ∀ v, cval n v = true → VR μ v v) {cs : Array Value} (h : cs.toList.all (cval n) = true) (i : Nat) (v v' : Value) (h1 : cs[i]? = some v) (h2 : cs[i]? = some v') : VR μ v v' := by
  rw [h1] at h2
  cases h2
  refine ih v (List.all_eq_true.1 h v ?_)
  obtain ⟨hi, rfl⟩ := Array.getElem?_eq_some_iff.1 h1
  exact Array.getElem_mem_toList hi
theorem cval_ok (μ : Mp) : ∀ (n : Nat) (v : Value), cval n v = true → VR μ v v
  | 0, v, h => by simp [cval] at h
  | n + 1, v, h => by
    have ih := cval_ok μ n
    cases v with
    | bool b => exact .bool b
    | int k m => exact .int k m
    | string s => exact .string s
    | pointer a => cases a with
      | none => exact .pnil
      | some a => simp [cval] at h
    | slice a m c => cases a with
      | none => exact .snil m c
      | some a => simp [cval] at h
    | map r => cases r with
      | none => exact .mnil
      | some a => simp [cval] at h
    | nilFunc => exact .nilFunc
    | nilIface => exact .nilIface
    | iface t v => exact .iface t (ih v (by simpa [cval] using h))
    | func fn a c =>
      cases fn with
      | func f =>
        simp only [cval, Bool.and_eq_true, List.isEmpty_iff, Array.toList_eq_nil_iff] at h
        obtain ⟨rfl, rfl⟩ := h
        exact .func f rfl (by simp) rfl (by simp)
      | _ => simp [cval] at h
    | agg cs => exact .agg rfl (cval_row μ ih (by simpa only [cval] using h))
    | tuple cs => exact .tuple rfl (cval_row μ ih (by simpa only [cval] using h))
    | _ => simp [cval] at h

/-- The cells of a range, written anew. -/
def setRange : List Value → Nat → List Value → List Value
  | c, _, [] => c
  | c, o, v :: vs => setRange (c.set o v) (o + 1) vs
theorem length_setRange : ∀ (vs c : List Value) (o : Nat), (setRange c o vs).length = c.length
  | [], c, o => rfl
  | v :: vs, c, o => by rw [setRange, length_setRange vs]; simp
theorem addr_add (g o j : Nat) : (⟨g, o, none⟩ : Addr).add j = ⟨g, o + j, none⟩ := by unfold Addr.add; split <;> simp_all

section
variable {P : Program} {μ : Mp} {H : AH} {w0 : Base} {w : World}
/-- Cells are read. -/
theorem Rel.loads (h : Rel μ H w0 w) {k : Nat} {c : List Value} {e : TypeId} {x rw : Bool} (hk : H.t.get k = some (.cells c e x rw)) {g s : Nat} (hm : μ k = some (g, s)) :
    ∀ (n i o : Nat) (acc acc' : Array Value), o + i + n ≤ c.length → AR μ acc acc' →
      ∃ r, (loadCellsFrom ⟨g, o, none⟩ i n acc').run P w = .ok r w ∧ AR μ (acc ++ ((c.drop (o + i)).take n).toArray) r
  | 0, i, o, acc, acc', _, ha => ⟨acc', rfl, by simpa using ha⟩
  | n + 1, i, o, acc, acc', hl, ha => by
    have hi : o + i < c.length := by omega
    obtain ⟨v', hc, hv⟩ := h.cell hk hm (i := o + i) (List.getElem?_eq_getElem hi)
    have hp : AR μ (acc.push c[o + i]) (acc'.push v') := by
      have := (AR.toList ha).append (LR.cons hv (.nil μ))
      have := LR.toArray this
      have e1 : ∀ (a : Array Value) (u : Value), (a.toList ++ [u]).toArray = a.push u := fun a u => by apply Array.ext'; simp
      rw [e1, e1] at this
      exact this
    obtain ⟨r, hr, har⟩ := Rel.loads h hk hm n (i + 1) o _ _ (by omega) hp
    refine ⟨r, ?_, ?_⟩
    · simp only [loadCellsFrom, Sem.run_bind, run_load, addr_add, hc, Result.andThen_ok, hr]
    · have e1 : (c.drop (o + i)).take (n + 1) = c[o + i] :: (c.drop (o + (i + 1))).take n := by
        rw [List.drop_eq_getElem_cons hi, List.take_succ_cons]; rfl
      rw [e1]
      have e2 : acc ++ (c[o + i] :: (c.drop (o + (i + 1))).take n).toArray = acc.push c[o + i] ++ ((c.drop (o + (i + 1))).take n).toArray := by
        apply Array.ext'; simp
      rw [e2]; exact har
/-- Cells are written. -/
theorem Rel.stores {k : Nat} {e : TypeId} {x : Bool} {g s : Nat} (hm : μ k = some (g, s)) :
    ∀ (vs vs' : List Value) (H : AH) (c : List Value) (w : World) (i o : Nat), Rel μ H w0 w → H.t.get k = some (.cells c e x true) → LR μ vs vs' → vs.all (·.oneCell') = true → o + i + vs.length ≤ c.length →
      ∃ w', (storeCells ⟨g, o, none⟩ vs' i).run P w = .ok () w' ∧ Rel μ (H.put k (.cells (setRange c (o + i) vs) e x true)) w0 w'
  | [], vs', H, c, w, i, o, h, hk, hv, _, _ => by
    rw [hv.inv_nil]
    refine ⟨w, rfl, h.congr (fun j => ?_) rfl⟩
    rw [h.get_put (h.get_lt hk)]
    split
    · rename_i ej; rw [ej, hk]; rfl
    · rfl
  | v :: vs, vs', H, c, w, i, o, h, hk, hv, h1, hl => by
    obtain ⟨u, us, rfl, hu, hus⟩ := hv.inv
    simp only [List.all_cons, Bool.and_eq_true] at h1
    simp only [List.length_cons] at hl
    obtain ⟨⟨y, hy⟩, hz, hr⟩ := h.store hk hm (i := o + i) (by omega) hu
    have hlt := h.get_lt hk
    obtain ⟨w', hw, hr'⟩ := Rel.stores hm vs us _ (c.set (o + i) v) _ (i + 1) o hr (by rw [h.get_put hlt, if_pos rfl]) hus h1.2 (by simp; omega)
    refine ⟨w', ?_, hr'.congr (fun j => ?_) rfl⟩
    · have hst : (Go.store (⟨g, o + i, none⟩ : Addr) u).run P w = Result.ok () (w.setCell ⟨g, o + i, none⟩ u) := by
        rw [run_store P w _ u _ (by rw [hu.oneCell]; exact h1.1)]
        simp [hy, hz]
      simp only [storeCells, Sem.run_bind, addr_add, hst, Result.andThen_ok, hw]
    · rw [h.get_put hlt, hr.get_put (by simpa [AH.put] using hlt), h.get_put hlt]
      by_cases ej : j = k
      · simp only [ej, if_true, setRange]; rfl
      · simp only [if_neg ej]
end
end AM
end Go.Proofs.YtccnkkffeokgcaaGreatDoor
