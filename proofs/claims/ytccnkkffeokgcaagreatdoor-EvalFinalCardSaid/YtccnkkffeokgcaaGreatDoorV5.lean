/-
  The abstract machine's operations, second part: addresses, parts, composites, slices. No condition.
-/
import Derived.Test.YtccnkkffeokgcaaGreatDoorV4
namespace Go.Proofs.YtccnkkffeokgcaaGreatDoor
namespace AM
open Go.RowKit

theorem LR.set {μ : Mp} {l l' : List Value} (r : LR μ l l') {v v' : Value} (h : VR μ v v') (i : Nat) : LR μ (l.set i v) (l'.set i v') := by
  refine ⟨by simp [r.1], fun j x x' h1 h2 => ?_⟩
  rw [List.getElem?_set] at h1 h2
  by_cases e : i = j
  · subst e
    simp only [if_true] at h1 h2
    split at h1
    · rw [if_pos (by rw [← r.1]; assumption)] at h2
      cases h1; cases h2; exact h
    · cases h1
  · rw [if_neg e] at h1 h2; exact r.2 j x x' h1 h2
theorem LR.setRange {μ : Mp} : ∀ (vs vs' l l' : List Value) (o : Nat), LR μ vs vs' → LR μ l l' → LR μ (setRange l o vs) (setRange l' o vs')
  | [], vs', l, l', o, hv, hl => by rw [hv.inv_nil]; exact hl
  | v :: vs, vs', l, l', o, hv, hl => by
    obtain ⟨u, us, rfl, hu, hus⟩ := hv.inv
    exact LR.setRange vs us _ _ (o + 1) hus (hl.set hu o)
theorem LR.take {μ : Mp} {l l' : List Value} (r : LR μ l l') (n : Nat) : LR μ (l.take n) (l'.take n) := by
  refine ⟨by simp [r.1], fun i x x' h1 h2 => ?_⟩
  rw [List.getElem?_take] at h1 h2
  split at h1
  · rw [if_pos (by assumption)] at h2; exact r.2 i x x' h1 h2
  · cases h1
theorem LR.drop {μ : Mp} {l l' : List Value} (r : LR μ l l') (n : Nat) : LR μ (l.drop n) (l'.drop n) := by
  refine ⟨by simp [r.1], fun i x x' h1 h2 => ?_⟩
  rw [List.getElem?_drop] at h1 h2
  exact r.2 _ x x' h1 h2
theorem LR.get {μ : Mp} {l l' : List Value} (r : LR μ l l') {i : Nat} {v : Value} (h : l[i]? = some v) : ∃ v', l'[i]? = some v' ∧ VR μ v v' := by
  obtain ⟨hi, _⟩ := List.getElem?_eq_some_iff.1 h
  have hi' : i < l'.length := by rw [← r.1]; exact hi
  exact ⟨l'[i], List.getElem?_eq_getElem hi', r.2 i _ _ h (List.getElem?_eq_getElem hi')⟩
theorem LR.refl_of {μ : Mp} {l : List Value} (h : l.all (cval 6) = true) : LR μ l l :=
  ⟨rfl, fun i v v' h1 h2 => by
    rw [h1] at h2; cases h2
    exact cval_ok μ 6 v (List.all_eq_true.1 h v (List.mem_of_getElem? h1))⟩

section
variable {P : Program} {E : Env} {μ : Mp} {H : AH} {w0 : Base} {w : World}
def afieldAddr (E : Env) (s f : Nat) : Value → Option Value
  | .pointer (some ⟨k, o, none⟩) => match E.und s with
    | some (.struct fs) => match fs[f]? with
      | some fd => match E.info fd.type with
        | some i => bif Nat.beq i.size 0 then none else some (.pointer (some ⟨k, o + fd.offset, none⟩))
        | none => none
      | none => none
    | _ => none
  | _ => none
theorem afieldAddr_ok (hE : E.Ok P) (h : Rel μ H w0 w) {s f : Nat} {x x' v : Value} (hx : VR μ x x') (e : afieldAddr E s f x = some v) : GotV P (Instr.fieldAt s x' f) μ w0 w v H := by
  cases hx with
  | @ptr k g z o hm =>
    simp only [afieldAddr] at e
    split at e
    · rename_i fs hu
      split at e
      · rename_i fd hf
        split at e
        · rename_i i hi
          cases hb : Nat.beq i.size 0 with
          | true => rw [hb] at e; cases e
          | false =>
            rw [hb] at e; cases e
            have hne : i.size ≠ 0 := fun e => by rw [e] at hb; cases hb
            refine .pure h (v' := .pointer (some ⟨g, o + fd.offset, none⟩)) ?_ (.ptr _ hm)
            simp only [Instr.fieldAt, Instr.sureAddr, Sem.run_bind, run_und hE hu, Result.andThen_ok, hf, Sem.run_pure, fieldPlace, run_size hE hi, if_neg hne, addr_add]
        · cases e
      · cases e
    · cases e
  | _ => simp [afieldAddr] at e
def aindexAddr (E : Env) (t : Nat) : Value → Value → Option Value
  | .slice (some ⟨k, o, none⟩) n _, .int _ i => match E.und t with
    | some (.slice el) => match E.info el with
      | some inf => if 0 ≤ i ∧ i < (n : Int) then some (.pointer (some ⟨k, o + i.toNat * inf.size, none⟩)) else none
      | none => none
    | _ => none
  | .pointer (some ⟨k, o, none⟩), .int _ i => match E.und t with
    | some (.array n el) => match E.info el with
      | some inf => if 0 ≤ i ∧ i < (n : Int) then some (.pointer (some ⟨k, o + i.toNat * inf.size, none⟩)) else none
      | none => none
    | _ => none
  | _, _ => none
theorem aindexAddr_slice (hE : E.Ok P) {t : Nat} {el : TypeId} {inf : TypeInfo} {g o n c : Nat} {kk : IntKind} {i : Int} (hu : E.und t = some (.slice el)) (hi : E.info el = some inf) (hb : 0 ≤ i ∧ i < (n : Int)) :
    (Instr.indexAt t (.slice (some ⟨g, o, none⟩) n c) (.int kk i)).run P w = .ok (.pointer (some ⟨g, o + i.toNat * inf.size, none⟩)) w := by
  simp only [Instr.indexAt, asIntOf, Sem.run_bind, Sem.run_pure, Result.andThen_ok, run_und hE hu, if_pos hb, run_size hE hi, addr_add, Bool.and_false]
theorem aindexAddr_array (hE : E.Ok P) {t : Nat} {el : TypeId} {inf : TypeInfo} {g o n : Nat} {kk : IntKind} {i : Int} (hu : E.und t = some (.array n el)) (hi : E.info el = some inf) (hb : 0 ≤ i ∧ i < (n : Int)) :
    (Instr.indexAt t (.pointer (some ⟨g, o, none⟩)) (.int kk i)).run P w = .ok (.pointer (some ⟨g, o + i.toNat * inf.size, none⟩)) w := by
  simp only [Instr.indexAt, asIntOf, Sem.run_bind, Sem.run_pure, Result.andThen_ok, run_und hE hu, Instr.sureAddr, if_pos hb, run_size hE hi, addr_add]
theorem aindexAddr_ok (hE : E.Ok P) (h : Rel μ H w0 w) {t : Nat} {x x' i i' v : Value} (hx : VR μ x x') (hi : VR μ i i') (e : aindexAddr E t x i = some v) : GotV P (Instr.indexAt t x' i') μ w0 w v H := by
  unfold aindexAddr at e
  split at e
  · cases hi
    split at e
    · rename_i hu
      split at e
      · rename_i hf
        split at e
        · rename_i hb
          cases e
          cases hx with
          | sl o n c hm hc => exact .pure h (aindexAddr_slice hE hu hf hb) (.ptr _ hm)
          | slx o n c c' ez hm h1 h2 h3 h4 h5 => exact .pure h (aindexAddr_slice hE hu hf hb) (.ptr _ hm)
        · cases e
      · cases e
    · cases e
  · cases hi
    split at e
    · rename_i hu
      split at e
      · rename_i hf
        split at e
        · rename_i hb
          cases e
          cases hx with
          | ptr o hm => exact .pure h (aindexAddr_array hE hu hf hb) (.ptr _ hm)
        · cases e
      · cases e
    · cases e
  · cases e
/-- A part of a composite. -/
def apart (E : Env) (t : Nat) (cs : List Value) (off : Nat) : Option Value := match E.und t, E.info t with
  | some d, some i => bif isAggB d then (bif Nat.ble (off + i.size) cs.length then some (.agg ((cs.drop off).take i.size).toArray) else none) else cs[off]?
  | _, _ => none
theorem apart_ok (hE : E.Ok P) {t off : Nat} {cs cs' : Array Value} {v : Value} (hc : AR μ cs cs') (e : apart E t cs.toList off = some v) (w : World) : ∃ v', (part t cs' off).run P w = .ok v' w ∧ VR μ v v' := by
  unfold apart at e
  split at e
  · rename_i d i hu hi
    cases ha : isAggB d with
    | true =>
      simp only [ha, cond_true] at e
      cases hb : Nat.ble (off + i.size) cs.toList.length with
      | false => rw [hb] at e; cases e
      | true =>
        rw [hb] at e; cases e
        have r := ((AR.toList hc).drop off).take i.size
        refine ⟨.agg (cs'.extract off (off + i.size)), ?_, ?_⟩
        · simp only [part, Sem.run_bind, run_isAgg hE hu, Result.andThen_ok, ha, if_true, run_size hE hi, Sem.run_pure]
        · have e2 : cs'.extract off (off + i.size) = ((cs'.toList.drop off).take i.size).toArray := by
            apply Array.ext'
            simp [Array.toList_extract, List.extract]
          rw [e2]
          exact .agg (LR.toArray r).1 (LR.toArray r).2
    | false =>
      simp only [ha, cond_false] at e
      obtain ⟨v', h1, h2⟩ := hc.get (i := off) (v := v) (by simpa using e)
      refine ⟨v', ?_, h2⟩
      simp only [part, Sem.run_bind, run_isAgg hE hu, Result.andThen_ok, ha, Bool.false_eq_true, if_false, h1, Sem.run_pure]
  · cases e
def afield (E : Env) (s f : Nat) : Value → Option Value
  | .agg cs => match E.und s with
    | some (.struct fs) => match fs[f]? with
      | some fd => apart E fd.type cs.toList fd.offset
      | none => none
    | _ => none
  | _ => none
theorem afield_ok (hE : E.Ok P) (h : Rel μ H w0 w) {s f : Nat} {x x' v : Value} (hx : VR μ x x') (e : afield E s f x = some v) : GotV P (Instr.field s x' f) μ w0 w v H := by
  unfold afield at e
  split at e
  · split at e
    · rename_i fs hu
      split at e
      · rename_i fd hf
        cases hx with
        | @agg c c' h1 h2 =>
          obtain ⟨v', r1, r2⟩ := apart_ok hE ⟨h1, h2⟩ e w
          refine .pure h (v' := v') ?_ r2
          simp only [Instr.field, Sem.run_bind, run_und hE hu, Result.andThen_ok, hf, asAgg, Sem.run_pure, r1]
      · cases e
    · cases e
  · cases e
theorem sget {s : ByteArray} {k : Nat} {b : UInt8} (h : s.data.toList[k]? = some b) : s[k]? = some b := by
  obtain ⟨h1, h2⟩ := List.getElem?_eq_some_iff.1 h
  rw [getElem?_pos s k (by simpa using h1)]
  rw [← h2]
  rfl
def aindex (E : Env) (t : Nat) : Value → Value → Option Value
  | .agg cs, .int _ i => match E.und t with
    | some (.array n el) => match E.info el with
      | some inf => if 0 ≤ i ∧ i < (n : Int) then apart E el cs.toList (i.toNat * inf.size) else none
      | none => none
    | _ => none
  | .string s, .int _ i => match E.und t with
    | some .string => if 0 ≤ i then (match s.data.toList[i.toNat]? with | some b => some (.int .u8 b.toNat) | none => none) else none
    | _ => none
  | _, _ => none
theorem aindex_ok (hE : E.Ok P) (h : Rel μ H w0 w) {t : Nat} {x x' i i' v : Value} (hx : VR μ x x') (hi : VR μ i i') (e : aindex E t x i = some v) : GotV P (Instr.index t x' i') μ w0 w v H := by
  unfold aindex at e
  split at e
  · cases hi
    split at e
    · rename_i hu
      split at e
      · rename_i hf
        split at e
        · rename_i hb
          cases hx with
          | @agg c c' h1 h2 =>
            obtain ⟨v', r1, r2⟩ := apart_ok hE ⟨h1, h2⟩ e w
            refine .pure h (v' := v') ?_ r2
            simp only [Instr.index, asIntOf, Sem.run_bind, Sem.run_pure, run_und hE hu, Result.andThen_ok, if_pos hb, run_size hE hf, r1]
        · cases e
      · cases e
    · cases e
  · cases hi
    cases hx
    split at e
    · rename_i hu
      split at e
      · rename_i hb
        split at e
        · rename_i b hs
          cases e
          refine .pure h (v' := .int .u8 b.toNat) ?_ (.int _ _)
          simp only [Instr.index, asIntOf, Sem.run_bind, Sem.run_pure, run_und hE hu, Result.andThen_ok, if_pos hb, sget hs]
        · cases e
      · cases e
    · cases e
  · cases e
def aextract (ix : Nat) : Value → Option Value
  | .tuple vs => vs.toList[ix]?
  | _ => none
theorem aextract_ok (h : Rel μ H w0 w) {ix : Nat} {x x' v : Value} (hx : VR μ x x') (e : aextract ix x = some v) : GotV P (Instr.extract x' ix) μ w0 w v H := by
  unfold aextract at e
  split at e
  · cases hx with
    | @tuple c c' h1 h2 =>
      obtain ⟨v', r1, r2⟩ := AR.get ⟨h1, h2⟩ (i := ix) (v := v) (by simpa using e)
      refine .pure h (v' := v') ?_ r2
      simp only [Instr.extract, r1, Sem.run_pure]
  · cases e
def anilCheck : Value → Option Value
  | .pointer (some a) => some (.pointer (some a))
  | .func (.func f) a c => some (.func (.func f) a c)
  | .iface t v => some (.iface t v)
  | _ => none
end
end AM
end Go.Proofs.YtccnkkffeokgcaaGreatDoor
