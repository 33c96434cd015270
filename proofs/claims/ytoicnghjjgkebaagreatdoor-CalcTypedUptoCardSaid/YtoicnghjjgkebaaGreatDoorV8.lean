/-
  The abstract machine's operations, second part: addresses, parts, composites, slices. No condition.
  The abstract machine's operations, third part: composites are built; slices are made and cut. No condition.
  The abstract machine's operations, fourth part: slices are made and cut; maps are made; lengths. No condition.
  The abstract machine's operations, fifth part: slices are cut; values are held against each other; numbers. No condition.
-/
import Derived.Test.YtoicnghjjgkebaaGreatDoorV4
import Derived.IntWalk
import Derived.Laws.StructEq
set_option linter.unusedSectionVars false
set_option linter.unusedSimpArgs false
set_option linter.unusedVariables false
set_option linter.unnecessarySimpa false
namespace Go.Proofs.YtoicnghjjgkebaaGreatDoor
namespace AM
open Go.RowKit
variable [Toks]

theorem LR.set {μ : Mp} {l l' : List Value} (r : LR μ l l') {v v' : Value} (h : VR μ v v') (i : Nat) : LR μ (l.set i v) (l'.set i v') := by
  refine ⟨by simp [r.1], fun j x x' h1 h2 => ?_⟩
  rw [List.getElem?_set] at h1 h2
  by_cases e : i = j
  · subst e
    simp only [if_true] at h1 h2
    split at h1
    · rw [if_pos (by rw [← r.1]; assumption)] at h2
      cases h1; cases h2; exact h
    · cases h1
  · rw [if_neg e] at h1 h2; exact r.2 j x x' h1 h2
theorem LR.setRange {μ : Mp} : ∀ (vs vs' l l' : List Value) (o : Nat), LR μ vs vs' → LR μ l l' → LR μ (setRange l o vs) (setRange l' o vs')
  | [], vs', l, l', o, hv, hl => by rw [hv.inv_nil]; exact hl
  | v :: vs, vs', l, l', o, hv, hl => by
    obtain ⟨u, us, rfl, hu, hus⟩ := hv.inv
    exact LR.setRange vs us _ _ (o + 1) hus (hl.set hu o)
theorem LR.take {μ : Mp} {l l' : List Value} (r : LR μ l l') (n : Nat) : LR μ (l.take n) (l'.take n) := by
  refine ⟨by simp [r.1], fun i x x' h1 h2 => ?_⟩
  rw [List.getElem?_take] at h1 h2
  split at h1
  · rw [if_pos (by assumption)] at h2; exact r.2 i x x' h1 h2
  · cases h1
theorem LR.drop {μ : Mp} {l l' : List Value} (r : LR μ l l') (n : Nat) : LR μ (l.drop n) (l'.drop n) := by
  refine ⟨by simp [r.1], fun i x x' h1 h2 => ?_⟩
  rw [List.getElem?_drop] at h1 h2
  exact r.2 _ x x' h1 h2
theorem LR.get {μ : Mp} {l l' : List Value} (r : LR μ l l') {i : Nat} {v : Value} (h : l[i]? = some v) : ∃ v', l'[i]? = some v' ∧ VR μ v v' := by
  obtain ⟨hi, _⟩ := List.getElem?_eq_some_iff.1 h
  have hi' : i < l'.length := by rw [← r.1]; exact hi
  exact ⟨l'[i], List.getElem?_eq_getElem hi', r.2 i _ _ h (List.getElem?_eq_getElem hi')⟩
theorem LR.refl_of {μ : Mp} {l : List Value} (h : l.all (cval 6) = true) : LR μ l l :=
  ⟨rfl, fun i v v' h1 h2 => by
    rw [h1] at h2; cases h2
    exact cval_ok μ 6 v (List.all_eq_true.1 h v (List.mem_of_getElem? h1))⟩

section
variable {P : Program} {E : Env} {μ : Mp} {H : AH} {w0 : Base} {w : World}
def afieldAddr (E : Env) (s f : Nat) : Value → Option Value
  | .pointer (some ⟨k, o, none⟩) => match E.und s with
    | some (.struct fs) => match fs[f]? with
      | some fd => match E.info fd.type with
        | some i => bif Nat.beq i.size 0 then none else some (.pointer (some ⟨k, o + fd.offset, none⟩))
        | none => none
      | none => none
    | _ => none
  | _ => none
theorem afieldAddr_ok (hE : E.Ok P) (h : Rel μ H w0 w) {s f : Nat} {x x' v : Value} (hx : VR μ x x') (e : afieldAddr E s f x = some v) : GotV P (Instr.fieldAt s x' f) μ w0 w v H := by
  cases hx with
  | @ptr k g z o hm =>
    simp only [afieldAddr] at e
    split at e
    · rename_i fs hu
      split at e
      · rename_i fd hf
        split at e
        · rename_i i hi
          cases hb : Nat.beq i.size 0 with
          | true => rw [hb] at e; cases e
          | false =>
            rw [hb] at e; cases e
            have hne : i.size ≠ 0 := fun e => by rw [e] at hb; cases hb
            refine .pure h (v' := .pointer (some ⟨g, o + fd.offset, none⟩)) ?_ (.ptr _ hm)
            simp only [Instr.fieldAt, Instr.sureAddr, Sem.run_bind, run_und hE hu, Result.andThen_ok, hf, Sem.run_pure, fieldPlace, run_size hE hi, if_neg hne, addr_add]
        · cases e
      · cases e
    · cases e
  | _ => simp [afieldAddr] at e
def aindexAddr (E : Env) (t : Nat) : Value → Value → Option Value
  | .slice (some ⟨k, o, none⟩) n _, .int _ i => match E.und t with
    | some (.slice el) => match E.info el with
      | some inf => if 0 ≤ i ∧ i < (n : Int) then some (.pointer (some ⟨k, o + i.toNat * inf.size, none⟩)) else none
      | none => none
    | _ => none
  | .pointer (some ⟨k, o, none⟩), .int _ i => match E.und t with
    | some (.array n el) => match E.info el with
      | some inf => if 0 ≤ i ∧ i < (n : Int) then some (.pointer (some ⟨k, o + i.toNat * inf.size, none⟩)) else none
      | none => none
    | _ => none
  | _, _ => none
theorem aindexAddr_slice (hE : E.Ok P) {t : Nat} {el : TypeId} {inf : TypeInfo} {g o n c : Nat} {kk : IntKind} {i : Int} (hu : E.und t = some (.slice el)) (hi : E.info el = some inf) (hb : 0 ≤ i ∧ i < (n : Int)) :
    (Instr.indexAt t (.slice (some ⟨g, o, none⟩) n c) (.int kk i)).run P w = .ok (.pointer (some ⟨g, o + i.toNat * inf.size, none⟩)) w := by
  simp only [Instr.indexAt, asIntOf, Sem.run_bind, Sem.run_pure, Result.andThen_ok, run_und hE hu, if_pos hb, run_size hE hi, addr_add, Bool.and_false]
theorem aindexAddr_array (hE : E.Ok P) {t : Nat} {el : TypeId} {inf : TypeInfo} {g o n : Nat} {kk : IntKind} {i : Int} (hu : E.und t = some (.array n el)) (hi : E.info el = some inf) (hb : 0 ≤ i ∧ i < (n : Int)) :
    (Instr.indexAt t (.pointer (some ⟨g, o, none⟩)) (.int kk i)).run P w = .ok (.pointer (some ⟨g, o + i.toNat * inf.size, none⟩)) w := by
  simp only [Instr.indexAt, asIntOf, Sem.run_bind, Sem.run_pure, Result.andThen_ok, run_und hE hu, Instr.sureAddr, if_pos hb, run_size hE hi, addr_add]
theorem aindexAddr_ok (hE : E.Ok P) (h : Rel μ H w0 w) {t : Nat} {x x' i i' v : Value} (hx : VR μ x x') (hi : VR μ i i') (e : aindexAddr E t x i = some v) : GotV P (Instr.indexAt t x' i') μ w0 w v H := by
  unfold aindexAddr at e
  split at e
  · cases hi
    split at e
    · rename_i hu
      split at e
      · rename_i hf
        split at e
        · rename_i hb
          cases e
          cases hx with
          | sl o n c hm hc => exact .pure h (aindexAddr_slice hE hu hf hb) (.ptr _ hm)
          | slx o n c c' ez hm h1 h2 h3 h4 h5 => exact .pure h (aindexAddr_slice hE hu hf hb) (.ptr _ hm)
        · cases e
      · cases e
    · cases e
  · cases hi
    split at e
    · rename_i hu
      split at e
      · rename_i hf
        split at e
        · rename_i hb
          cases e
          cases hx with
          | ptr o hm => exact .pure h (aindexAddr_array hE hu hf hb) (.ptr _ hm)
        · cases e
      · cases e
    · cases e
  · cases e
/-- A part of a composite. -/
def apart (E : Env) (t : Nat) (cs : List Value) (off : Nat) : Option Value := match E.und t, E.info t with
  | some d, some i => bif isAggB d then (bif Nat.ble (off + i.size) cs.length then some (.agg ((cs.drop off).take i.size).toArray) else none) else cs[off]?
  | _, _ => none
theorem apart_ok (hE : E.Ok P) {t off : Nat} {cs cs' : Array Value} {v : Value} (hc : AR μ cs cs') (e : apart E t cs.toList off = some v) (w : World) : ∃ v', (part t cs' off).run P w = .ok v' w ∧ VR μ v v' := by
  unfold apart at e
  split at e
  · rename_i d i hu hi
    cases ha : isAggB d with
    | true =>
      simp only [ha, cond_true] at e
      cases hb : Nat.ble (off + i.size) cs.toList.length with
      | false => rw [hb] at e; cases e
      | true =>
        rw [hb] at e; cases e
        have r := ((AR.toList hc).drop off).take i.size
        refine ⟨.agg (cs'.extract off (off + i.size)), ?_, ?_⟩
        · simp only [part, Sem.run_bind, run_isAgg hE hu, Result.andThen_ok, ha, if_true, run_size hE hi, Sem.run_pure]
        · have e2 : cs'.extract off (off + i.size) = ((cs'.toList.drop off).take i.size).toArray := by
            apply Array.ext'
            simp [Array.toList_extract, List.extract]
          rw [e2]
          exact .agg (LR.toArray r).1 (LR.toArray r).2
    | false =>
      simp only [ha, cond_false] at e
      obtain ⟨v', h1, h2⟩ := hc.get (i := off) (v := v) (by simpa using e)
      refine ⟨v', ?_, h2⟩
      simp only [part, Sem.run_bind, run_isAgg hE hu, Result.andThen_ok, ha, Bool.false_eq_true, if_false, h1, Sem.run_pure]
  · cases e
def afield (E : Env) (s f : Nat) : Value → Option Value
  | .agg cs => match E.und s with
    | some (.struct fs) => match fs[f]? with
      | some fd => apart E fd.type cs.toList fd.offset
      | none => none
    | _ => none
  | _ => none
theorem afield_ok (hE : E.Ok P) (h : Rel μ H w0 w) {s f : Nat} {x x' v : Value} (hx : VR μ x x') (e : afield E s f x = some v) : GotV P (Instr.field s x' f) μ w0 w v H := by
  unfold afield at e
  split at e
  · split at e
    · rename_i fs hu
      split at e
      · rename_i fd hf
        cases hx with
        | @agg c c' h1 h2 =>
          obtain ⟨v', r1, r2⟩ := apart_ok hE ⟨h1, h2⟩ e w
          refine .pure h (v' := v') ?_ r2
          simp only [Instr.field, Sem.run_bind, run_und hE hu, Result.andThen_ok, hf, asAgg, Sem.run_pure, r1]
      · cases e
    · cases e
  · cases e
theorem sget {s : ByteArray} {k : Nat} {b : UInt8} (h : s.data.toList[k]? = some b) : s[k]? = some b := by
  obtain ⟨h1, h2⟩ := List.getElem?_eq_some_iff.1 h
  rw [getElem?_pos s k (by simpa using h1)]
  rw [← h2]
  rfl
def aindex (E : Env) (t : Nat) : Value → Value → Option Value
  | .agg cs, .int _ i => match E.und t with
    | some (.array n el) => match E.info el with
      | some inf => if 0 ≤ i ∧ i < (n : Int) then apart E el cs.toList (i.toNat * inf.size) else none
      | none => none
    | _ => none
  | .string s, .int _ i => match E.und t with
    | some .string => if 0 ≤ i then (match s.data.toList[i.toNat]? with | some b => some (.int .u8 b.toNat) | none => none) else none
    | _ => none
  | _, _ => none
theorem aindex_ok (hE : E.Ok P) (h : Rel μ H w0 w) {t : Nat} {x x' i i' v : Value} (hx : VR μ x x') (hi : VR μ i i') (e : aindex E t x i = some v) : GotV P (Instr.index t x' i') μ w0 w v H := by
  unfold aindex at e
  split at e
  · cases hi
    split at e
    · rename_i hu
      split at e
      · rename_i hf
        split at e
        · rename_i hb
          cases hx with
          | @agg c c' h1 h2 =>
            obtain ⟨v', r1, r2⟩ := apart_ok hE ⟨h1, h2⟩ e w
            refine .pure h (v' := v') ?_ r2
            simp only [Instr.index, asIntOf, Sem.run_bind, Sem.run_pure, run_und hE hu, Result.andThen_ok, if_pos hb, run_size hE hf, r1]
        · cases e
      · cases e
    · cases e
  · cases hi
    cases hx
    split at e
    · rename_i hu
      split at e
      · rename_i hb
        split at e
        · rename_i b hs
          cases e
          refine .pure h (v' := .int .u8 b.toNat) ?_ (.int _ _)
          simp only [Instr.index, asIntOf, Sem.run_bind, Sem.run_pure, run_und hE hu, Result.andThen_ok, if_pos hb, sget hs]
        · cases e
      · cases e
    · cases e
  · cases e
def aextract (ix : Nat) : Value → Option Value
  | .tuple vs => vs.toList[ix]?
  | _ => none
theorem aextract_ok (h : Rel μ H w0 w) {ix : Nat} {x x' v : Value} (hx : VR μ x x') (e : aextract ix x = some v) : GotV P (Instr.extract x' ix) μ w0 w v H := by
  unfold aextract at e
  split at e
  · cases hx with
    | @tuple c c' h1 h2 =>
      obtain ⟨v', r1, r2⟩ := AR.get ⟨h1, h2⟩ (i := ix) (v := v) (by simpa using e)
      refine .pure h (v' := v') ?_ r2
      simp only [Instr.extract, r1, Sem.run_pure]
  · cases e
def anilCheck : Value → Option Value
  | .pointer (some a) => some (.pointer (some a))
  | .func (.func f) a c => some (.func (.func f) a c)
  | .iface t v => some (.iface t v)
  | _ => none
end
end AM
end Go.Proofs.YtoicnghjjgkebaaGreatDoor
namespace Go.Proofs.YtoicnghjjgkebaaGreatDoor
namespace AM
open Go.RowKit
variable [Toks]

theorem foldl_setRange (off : Nat) : ∀ (l : List Value) (k : Nat) (C : Array Value), (List.foldl (fun (cs : Array Value) (p : Value × Nat) => cs.setIfInBounds (off + p.2) p.1) C (l.zipIdx k)).toList = setRange C.toList (off + k) l
  | [], k, C => rfl
  | v :: l, k, C => by
    rw [List.zipIdx_cons, List.foldl_cons, foldl_setRange off l (k + 1)]
    simp only [Array.toList_setIfInBounds, setRange]
    rfl
theorem foldl_cells (off : Nat) (v : Array Value) (C : Array Value) : (v.zipIdx.foldl (fun cs (c, j) => cs.setIfInBounds (off + j) c) C).toList = setRange C.toList off v.toList := by
  rw [← Array.foldl_toList, Array.toList_zipIdx]
  exact foldl_setRange off v.toList 0 C
def afill (place : Nat → Option (Nat × Nat)) : List Value → List (Nat × Value) → Option (List Value)
  | cells, [] => some cells
  | cells, (i, v) :: rest => match place i with
    | none => none
    | some (off, size) => bif Nat.beq v.cells.toList.length size && Nat.ble (off + size) cells.length then afill place (setRange cells off v.cells.toList) rest else none
/-- Parts, by their places. -/
def PR (μ : Mp) : List (Nat × Value) → List (Nat × Value) → Prop
  | [], [] => True
  | (i, v) :: l, (j, u) :: m => i = j ∧ VR μ v u ∧ PR μ l m
  | _, _ => False
theorem afill_ok {μ : Mp} {place place' : Nat → Option (Nat × Nat)} (hp : ∀ i, place' i = place i) : ∀ (ps ps' : List (Nat × Value)) (c r : List Value) (c' : Array Value), PR μ ps ps' → LR μ c c'.toList → afill place c ps = some r → ∃ r', Instr.fill place' c' ps' = some r' ∧ LR μ r r'.toList
  | [], [], c, r, c', _, hc, e => by
    simp only [afill, Option.some.injEq] at e
    subst e
    exact ⟨c', rfl, hc⟩
  | (i, v) :: ps, (j, u) :: ps', c, r, c', h, hc, e => by
    obtain ⟨rfl, hv, hps⟩ := h
    simp only [afill] at e
    cases hi : place i with
    | none => simp [hi] at e
    | some q =>
      obtain ⟨off, size⟩ := q
      simp only [hi] at e
      cases hb : (Nat.beq v.cells.toList.length size && Nat.ble (off + size) c.length) with
      | false => rw [hb] at e; cases e
      | true =>
        rw [hb, cond_true] at e
        simp only [Bool.and_eq_true] at hb
        have b1 := Nat.eq_of_beq_eq_true hb.1
        have b2 := Nat.le_of_ble_eq_true hb.2
        have hl := hv.cells
        have l1 := hl.1
        have l2 := hc.1
        simp only [Array.length_toList] at l1 l2 b1
        obtain ⟨r', h1, h2⟩ := afill_ok hp ps ps' _ r (u.cells.zipIdx.foldl (fun cs (c, j) => cs.setIfInBounds (off + j) c) c') hps (by
          rw [foldl_cells]; exact LR.setRange _ _ _ _ off hl hc) e
        refine ⟨r', ?_, h2⟩
        rw [Instr.fill]
        simp only [hp, hi]
        rw [if_neg (by simp; omega)]
        exact h1
  | [], _ :: _, _, _, _, h, _, _ => h.elim
  | _ :: _, [], _, _, _, h, _, _ => h.elim

section
variable {P : Program} {E : Env} {μ : Mp} {H : AH} {w0 : Base} {w : World}
def aplaces (E : Env) : List Field → Option (List (Nat × Nat))
  | [] => some []
  | f :: fs => match E.info f.type, aplaces E fs with
    | some i, some l => some ((f.offset, i.size) :: l)
    | _, _ => none
theorem aplaces_ok (hE : E.Ok P) : ∀ (fs : List Field) (l : List (Nat × Nat)) (w : World), aplaces E fs = some l → (fs.mapM fun f => do pure (f.offset, ← Go.sizeOf f.type) : Sem (List (Nat × Nat))).run P w = .ok l w
  | [], l, w, e => by cases e; rfl
  | f :: fs, l, w, e => by
    simp only [aplaces] at e
    split at e
    · rename_i i m hi hm
      cases e
      have ih := aplaces_ok hE fs m w hm
      simp only [List.mapM_cons, Sem.run_bind, run_size hE hi, Result.andThen_ok, Sem.run_pure, ih]
    · cases e
def abuild (E : Env) (t : Nat) (ps : List (Nat × Value)) : Option Value := match E.info t, E.und t with
  | some i, some d => match i.zero, d with
    | some z, .struct fs => bif z.cells.toList.all (cval 6) then (match aplaces E fs.toList with
        | some l => match afill (fun k => l[k]?) z.cells.toList ps with
          | some r => some (.agg r.toArray)
          | none => none
        | none => none) else none
    | some z, .array _ el => bif z.cells.toList.all (cval 6) then (match E.info el with
        | some j => match afill (fun k => some (k * j.size, j.size)) z.cells.toList ps with
          | some r => some (.agg r.toArray)
          | none => none
        | none => none) else none
    | _, _ => none
  | _, _ => none
theorem AR.of_list {μ : Mp} {l : List Value} {a : Array Value} (h : LR μ l a.toList) : AR μ l.toArray a := by
  have := LR.toArray h
  simpa using this
theorem abuild_ok (hE : E.Ok P) (h : Rel μ H w0 w) {t : Nat} {ps : List (Nat × Value)} {ps' : Array (Nat × Value)} {v : Value} (hp : PR μ ps ps'.toList) (e : abuild E t ps = some v) : GotV P (Instr.build t ps') μ w0 w v H := by
  unfold abuild at e
  split at e
  · rename_i i d hi hu
    split at e
    · rename_i z fs hz
      cases hb : z.cells.toList.all (cval 6) with
      | false => rw [hb] at e; cases e
      | true =>
        rw [hb, cond_true] at e
        split at e
        · rename_i l hl
          split at e
          · rename_i r hr
            cases e
            obtain ⟨r', h1, h2⟩ := afill_ok (place' := fun k => l.toArray[k]?) (fun k => by simp) ps ps'.toList _ r z.cells hp (LR.refl_of hb) hr
            refine .pure h (v' := .agg r') ?_ (.agg (AR.of_list h2).1 (AR.of_list h2).2)
            have hm := aplaces_ok hE fs.toList l w hl
            have hm2 : (fs.mapM fun f => do pure (f.offset, ← Go.sizeOf f.type) : Sem (Array (Nat × Nat))).run P w = .ok l.toArray w := by
              rw [Array.mapM_eq_mapM_toList]
              simp only [Sem.run_map, hm, Result.andThen_ok]
            simp only [Instr.build, Sem.run_bind, run_zero hE hi hz, Result.andThen_ok, run_und hE hu, hm2, h1, Sem.run_pure]
          · cases e
        · cases e
    · rename_i z n el hz
      cases hb : z.cells.toList.all (cval 6) with
      | false => rw [hb] at e; cases e
      | true =>
        rw [hb, cond_true] at e
        split at e
        · rename_i j hj
          split at e
          · rename_i r hr
            cases e
            obtain ⟨r', h1, h2⟩ := afill_ok (place' := fun k => some (k * j.size, j.size)) (fun k => rfl) ps ps'.toList _ r z.cells hp (LR.refl_of hb) hr
            refine .pure h (v' := .agg r') ?_ (.agg (AR.of_list h2).1 (AR.of_list h2).2)
            simp only [Instr.build, Sem.run_bind, run_zero hE hi hz, Result.andThen_ok, run_und hE hu, run_size hE hj, h1, Sem.run_pure]
          · cases e
        · cases e
    · cases e
  · cases e
/-- A zero over and over. -/
def arep (z : Array Value) (n : Nat) : List Value := (List.range n).map fun j => z[j % z.size]!
theorem arep_eq (z : Array Value) (n : Nat) : ((Array.range n).map (z[· % z.size]!)).toList = arep z n := by
  simp [arep, Array.toList_map, Array.toList_range]
/-- A new row and the slice of it. -/
def arow (H : AH) (el : Nat) (c : List Value) (n m : Nat) : Option (Value × AH) :=
  bif Nat.blt (H.next + 1) 1099511627776 && Nat.blt m big then some (.slice (some ⟨H.next, 0, none⟩) n m, H.alloc (.cells c el true true)) else none
theorem arow_ok (h : Rel μ H w0 w) {el n m : Nat} {c : List Value} {v : Value} {H' : AH} {c' : Array Value} (hc : LR μ c c'.toList) (e : arow H el c n m = some (v, H')) :
    GotV P (do pure (.slice (some (← newRow el c')) n m)) μ w0 w v H' := by
  unfold arow at e
  cases hb : (Nat.blt (H.next + 1) 1099511627776 && Nat.blt m big) with
  | false => rw [hb] at e; cases e
  | true =>
    rw [hb] at e
    simp only [cond_true, Option.some.injEq, Prod.mk.injEq] at e
    obtain ⟨rfl, rfl⟩ := e
    simp only [Bool.and_eq_true] at hb
    have hm : m < big := Nat.le_of_ble_eq_true hb.2
    obtain ⟨ν, p, w', h1, h2, h3, h4⟩ := anew_ok (P := P) h (t := el) (v := .pointer (some ⟨H.next, 0, none⟩)) (H' := H.alloc (.cells c el true true)) hc (by unfold anew; rw [hb.1]; rfl)
    cases h4 with
    | @ptr k g s o hm2 =>
      simp only [newRow, newObj, Sem.run_bind, Sem.run, Result.andThen_ok, Sem.run_pure, Result.ok.injEq, Value.pointer.injEq, Option.some.injEq, Addr.mk.injEq, and_true] at h1
      obtain ⟨rfl, rfl⟩ := h1
      refine ⟨ν, .slice (some ⟨w.heap.size, 0, none⟩) n m, _, ?_, h2, h3, .sl 0 n m hm2 hm⟩
      simp only [newRow, newObj, Sem.run_bind, Sem.run, Result.andThen_ok, Sem.run_pure]
end
end AM
end Go.Proofs.YtoicnghjjgkebaaGreatDoor
namespace Go.Proofs.YtoicnghjjgkebaaGreatDoor
namespace AM
open Go.RowKit
variable [Toks]

theorem wrap_small {i : Int} (h0 : 0 ≤ i) (h1 : i ≤ 1099511627776) : IntKind.i64.wrap i = i := Go.IntWalk.i64_in i (by omega)
section
variable {P : Program} {E : Env} {μ : Mp} {H : AH} {w0 : Base} {w : World}
def amakeSlice (E : Env) (H : AH) (t : Nat) : Value → Value → Option (Value × AH)
  | .int _ L, .int _ C => match E.und t with
    | some (.slice el) => match E.info el with
      | some i => match i.zero with
        | some z =>
          if 0 ≤ L ∧ L ≤ C ∧ C ≤ 1048576 ∧ i.bytes ≤ 1048576 then
            let l := arep (bif Nat.beq (C.toNat * i.size) 0 then #[] else z.cells) (C.toNat * i.size)
            bif l.all (cval 6) then arow H el l L.toNat C.toNat else none
          else none
        | none => none
      | none => none
    | _ => none
  | _, _ => none
theorem amakeSlice_ok (hE : E.Ok P) (h : Rel μ H w0 w) {t : Nat} {x x' y y' v : Value} {H' : AH} (hx : VR μ x x') (hy : VR μ y y') (e : amakeSlice E H t x y = some (v, H')) :
    GotV P (Instr.makeSlice t x' y') μ w0 w v H' := by
  unfold amakeSlice at e
  split at e
  · rename_i k1 L k2 C
    cases hx; cases hy
    split at e
    · rename_i el hu
      split at e
      · rename_i i hi
        split at e
        · rename_i z hz
          split at e
          · rename_i hb
            obtain ⟨b1, b2, b3, b4⟩ := hb
            dsimp only at e
            cases hc : (arep (bif Nat.beq (C.toNat * i.size) 0 then #[] else z.cells) (C.toNat * i.size)).all (cval 6) with
            | false => rw [hc] at e; cases e
            | true =>
              rw [hc, cond_true] at e
              obtain ⟨n, rfl⟩ : ∃ n : Nat, C = n := ⟨C.toNat, by omega⟩
              simp only [Int.toNat_natCast] at *
              have hmul : (i.bytes : Int) * (n : Int) ≤ 2 ^ 48 := by
                have h1 : i.bytes * n ≤ 1048576 * 1048576 := Nat.mul_le_mul b4 (by omega)
                have : ((i.bytes * n : Nat) : Int) ≤ 1099511627776 := by omega
                rw [Int.natCast_mul] at this
                omega
              have hg := arow_ok (P := P) h (c' := (Array.range (n * i.size)).map ((bif Nat.beq (n * i.size) 0 then #[] else z.cells)[· % (bif Nat.beq (n * i.size) 0 then #[] else z.cells).size]!)) (by rw [arep_eq]; exact LR.refl_of hc) e
              obtain ⟨ν, v', w', r1, r2⟩ := hg
              refine ⟨ν, v', w', ?_, r2⟩
              rw [← r1]
              have w1 : IntKind.i64.wrap L = L := wrap_small b1 (by omega)
              have w2 : IntKind.i64.wrap (n : Int) = n := wrap_small (by omega) (by omega)
              simp only [Instr.makeSlice, asInt, asIntOf, Sem.run_bind, run_und hE hu, run_info hE hi, run_size hE hi, Result.andThen_ok, Sem.run_pure, w1, w2]
              rw [if_neg (by simp; omega)]
              simp only [Sem.run_bind, run_askRoom, Result.andThen_ok, Int.toNat_natCast, run_size hE hi]
              by_cases h0 : n * i.size = 0
              · rw [if_pos h0, h0]
                simp only [Sem.run_bind, Sem.run_pure, Result.andThen_ok]
                rfl
              · rw [if_neg h0, beq_ne h0]
                simp only [Sem.run_bind, run_zero hE hi hz, Result.andThen_ok, Sem.run_pure, cond_false]
          · cases e
        · cases e
      · cases e
    · cases e
  · cases e
/-- A bound of a slice expression. -/
def abnd (d lim : Nat) : Option Value → Option Nat
  | none => some d
  | some (.int _ i) => if 0 ≤ i ∧ i ≤ (lim : Int) then some i.toNat else none
  | some _ => none
def OR (μ : Mp) : Option Value → Option Value → Prop
  | none, none => True
  | some v, some u => VR μ v u
  | _, _ => False
theorem abnd_ok {d lim lim' b : Nat} {x x' : Option Value} (hx : OR μ x x') (hl : lim ≤ lim') (e : abnd d lim x = some b) (code : BoundsCode) :
    (x = none ∧ x' = none ∧ b = d) ∨ ∃ v', x' = some v' ∧ x ≠ none ∧ b ≤ lim ∧ (Instr.sliceBound v' lim' code).run P w = .ok b w := by
  cases x with
  | none =>
    cases x' with
    | none => left; cases e; exact ⟨rfl, rfl, rfl⟩
    | some v => exact hx.elim
  | some v =>
    cases x' with
    | none => exact hx.elim
    | some v' =>
      right
      simp only [OR] at hx
      cases hx with
      | int k i =>
        simp only [abnd] at e
        split at e
        · rename_i hb
          cases e
          refine ⟨_, rfl, by simp, by omega, ?_⟩
          simp only [Instr.sliceBound, asIntOf, Sem.run_bind, Sem.run_pure, Result.andThen_ok]
          rw [if_pos (by omega)]
          rfl
        · cases e
      | _ => simp [abnd] at e
/-- The bounds of a slice expression: l, h, m. -/
def abounds (n c : Nat) (lo hi mx : Option Value) : Option (Nat × Nat × Nat) := match abnd c c mx with
  | some m => match hi, mx with
    | none, some _ => none
    | _, _ => match abnd n m hi with
      | some h => match abnd 0 h lo with
        | some l => some (l, h, m)
        | none => none
      | none => none
  | none => none
theorem abounds_ok {sl : Bool} {n c c' l h m : Nat} {lo lo' hi hi' mx mx' : Option Value} (hlo : OR μ lo lo') (hhi : OR μ hi hi') (hmx : OR μ mx mx') (hc : c ≤ c') (e : abounds n c lo hi mx = some (l, h, m)) :
    (Instr.sliceBounds sl n c' lo' hi' mx').run P w = .ok (l, h, if mx.isSome then m else c') w ∧ (mx = none → m = c) ∧ (mx ≠ none → m ≤ c) ∧ (lo = none → l = 0) ∧ (lo ≠ none → l ≤ h) ∧ (hi = none → h = n) ∧ (hi ≠ none → h ≤ m) := by
  unfold abounds at e
  split at e
  · rename_i m0 hm
    split at e
    · cases e
    · rename_i hnm
      split at e
      · rename_i h0 hh
        split at e
        · rename_i l0 hl
          cases e
          have A := fun code => abnd_ok (P := P) (w := w) (μ := μ) hmx hc hm code
          rcases A .slice3Acap with ⟨rfl, rfl, rfl⟩ | ⟨vm, rfl, m1, m2, _⟩
          · have B := fun code => abnd_ok (P := P) (w := w) (μ := μ) hhi (Nat.le_trans (Nat.le_refl _) hc) hh code
            rcases B .sliceAcap with ⟨rfl, rfl, rfl⟩ | ⟨vh, rfl, h1, h2, _⟩
            · have C := fun code => abnd_ok (P := P) (w := w) (μ := μ) hlo (Nat.le_refl _) hl code
              rcases C .sliceB with ⟨rfl, rfl, rfl⟩ | ⟨vl, rfl, l1, l2, l3⟩
              · refine ⟨?_, by simp, by simp, by simp, by simp, by simp, by simp⟩
                simp [Instr.sliceBounds]
              · refine ⟨?_, by simp, by simp, fun e => (l1 e).elim, fun _ => l2, by simp, by simp⟩
                simp [Instr.sliceBounds, l3]
            · have C := fun code => abnd_ok (P := P) (w := w) (μ := μ) hlo (Nat.le_refl _) hl code
              have b3 : ∀ code, (Instr.sliceBound vh c' code).run P w = .ok h w := fun code => by
                rcases B code with ⟨hn, _⟩ | ⟨v2, e2, _, _, r2⟩
                · exact (h1 hn).elim
                · cases e2; exact r2
              rcases C .sliceB with ⟨rfl, rfl, rfl⟩ | ⟨vl, rfl, l1, l2, l3⟩
              · refine ⟨?_, by simp, by simp, by simp, by simp, fun e => (h1 e).elim, fun _ => h2⟩
                simp [Instr.sliceBounds, b3]
              · refine ⟨?_, by simp, by simp, fun e => (l1 e).elim, fun _ => l2, fun e => (h1 e).elim, fun _ => h2⟩
                simp [Instr.sliceBounds, b3, l3]
          · have a3 : ∀ code, (Instr.sliceBound vm c' code).run P w = .ok m w := fun code => by
              rcases A code with ⟨hn, _⟩ | ⟨v2, e2, _, _, r2⟩
              · exact (m1 hn).elim
              · cases e2; exact r2
            have B := fun code => abnd_ok (P := P) (w := w) (μ := μ) hhi (Nat.le_refl m) hh code
            have C := fun code => abnd_ok (P := P) (w := w) (μ := μ) hlo (Nat.le_refl _) hl code
            obtain ⟨um, rfl⟩ := Option.ne_none_iff_exists'.1 m1
            rcases B .slice3B with ⟨rfl, rfl, rfl⟩ | ⟨vh, rfl, h1, h2, h3⟩
            · exact (hnm _ rfl rfl).elim
            · rcases C .slice3C with ⟨rfl, rfl, rfl⟩ | ⟨vl, rfl, l1, l2, l3⟩
              · refine ⟨?_, by simp, fun _ => m2, by simp, by simp, fun e => (h1 e).elim, fun _ => h2⟩
                simp [Instr.sliceBounds, a3, h3]
              · refine ⟨?_, by simp, fun _ => m2, fun e => (l1 e).elim, fun _ => l2, fun e => (h1 e).elim, fun _ => h2⟩
                simp [Instr.sliceBounds, a3, h3, l3]
        · cases e
      · cases e
  · cases e
end
end AM
end Go.Proofs.YtoicnghjjgkebaaGreatDoor
namespace Go.Proofs.YtoicnghjjgkebaaGreatDoor
namespace AM
open Go.RowKit
variable [Toks]

section
variable {P : Program} {E : Env} {μ : Mp} {H : AH} {w0 : Base} {w : World}
def aslice (E : Env) (t : Nat) (x : Value) (lo hi mx : Option Value) : Option Value := match x, E.und t with
  | .slice a n c, some (.slice el) => match E.info el with
    | some i => match a with
      | none => match abounds n c lo hi mx with
        | some (l, h, m) => some (.slice none (h - l) (m - l))
        | none => none
      | some ⟨k, o, none⟩ =>
        bif Nat.blt c big then (match abounds n c lo hi mx with
          | some (l, h, m) => some (.slice (some ⟨k, (bif Nat.beq m l then o else o + l * i.size), none⟩) (h - l) (m - l))
          | none => none)
        else (match abounds n (c % big) lo hi mx with
          | some (l, h, m) => match mx with
            | some _ => some (.slice (some ⟨k, (bif Nat.beq m l then o else o + l * i.size), none⟩) (h - l) (m - l))
            | none => bif Nat.beq (c / big) i.size && Nat.blt l (c % big) && Nat.ble h (c % big) then some (.slice (some ⟨k, o + l * i.size, none⟩) (h - l) (i.size * big + (c % big - l))) else none
          | none => none)
      | some ⟨_, _, some _⟩ => none
    | none => none
  | .pointer (some ⟨k, o, none⟩), some (.array n el) => match E.info el with
    | some i => match abounds n n lo hi mx with
      | some (l, h, m) => bif Nat.blt n big then some (.slice (some ⟨k, (bif Nat.beq m l then o else o + l * i.size), none⟩) (h - l) (m - l)) else none
      | none => none
    | none => none
  | _, _ => none
theorem slice_addr (g o l m z : Nat) : (if m = l then (⟨g, o, none⟩ : Addr) else (⟨g, o, none⟩ : Addr).add (l * z)) = ⟨g, (bif Nat.beq m l then o else o + l * z), none⟩ := by
  by_cases e : m = l
  · subst e; simp
  · rw [if_neg e, beq_ne e, addr_add]; rfl
theorem run_slice_some (hE : E.Ok P) {t : Nat} {el : TypeId} {i : TypeInfo} (hu : E.und t = some (.slice el)) (hi : E.info el = some i) {a : Option Addr} {n c l h m : Nat} {lo hi' mx : Option Value} (hb : (Instr.sliceBounds true n c lo hi' mx).run P w = .ok (l, h, m) w) :
    (Instr.sliceAt t (.slice a n c) lo hi' mx).run P w = .ok (.slice (if m = l then a else a.map (·.add (l * i.size))) (h - l) (m - l)) w := by
  simp only [Instr.sliceAt, Instr.slice, Sem.run_bind, run_und hE hu, Result.andThen_ok, hb, run_size hE hi, Sem.run_pure]
theorem div_big {e c : Nat} (h : c < big) : (e * big + c) / big = e ∧ (e * big + c) % big = c := by
  have : 0 < big := by decide
  constructor
  · rw [Nat.mul_comm, Nat.mul_add_div this, Nat.div_eq_of_lt h]; rfl
  · rw [Nat.mul_comm, Nat.mul_add_mod, Nat.mod_eq_of_lt h]
theorem aslice_ok (hE : E.Ok P) (h : Rel μ H w0 w) {t : Nat} {x x' v : Value} {lo lo' hi hi' mx mx' : Option Value} (hx : VR μ x x') (hlo : OR μ lo lo') (hhi : OR μ hi hi') (hmx : OR μ mx mx') (e : aslice E t x lo hi mx = some v) :
    GotV P (Instr.sliceAt t x' lo' hi' mx') μ w0 w v H := by
  unfold aslice at e
  split at e
  · rename_i a n c el hu
    split at e
    · rename_i i hi0
      split at e
      · split at e
        · rename_i l h0 m hb
          cases e
          cases hx
          obtain ⟨r, r1, r2, _⟩ := abounds_ok (P := P) (w := w) (sl := true) hlo hhi hmx (Nat.le_refl _) hb
          refine .pure h (run_slice_some hE hu hi0 r) ?_
          cases hm : mx with
          | none =>
            have := r1 hm
            simp only [Option.isSome_none, Bool.false_eq_true, if_false, Option.map_none, ite_self, this]
            exact .snil _ _
          | some y =>
            simp only [Option.isSome_some, if_true, Option.map_none, ite_self]
            exact .snil _ _
        · cases e
      · rename_i k o
        cases hc : Nat.blt c big with
        | true =>
          rw [hc, cond_true] at e
          split at e
          · rename_i l h0 m hb
            cases e
            have hcb : c < big := Nat.le_of_ble_eq_true hc
            cases hx with
            | @sl k g s o n c hm hlt =>
              obtain ⟨r, r1, r2, _⟩ := abounds_ok (P := P) (w := w) (sl := true) hlo hhi hmx (Nat.le_refl _) hb
              have hmm : (if mx.isSome = true then m else c) = m ∧ m ≤ c := by
                cases hm : mx with
                | none => have := r1 hm; simp [this]
                | some y => have := r2 (by simp [hm]); simp [this]
              rw [hmm.1] at r
              refine .pure h (run_slice_some hE hu hi0 r) ?_
              have e2 : (if m = l then some (⟨g, o, none⟩ : Addr) else (some (⟨g, o, none⟩ : Addr)).map (·.add (l * i.size))) = some ⟨g, (bif Nat.beq m l then o else o + l * i.size), none⟩ := by
                rw [← slice_addr]; split <;> rfl
              rw [e2]
              exact .sl _ _ _ hm (by omega)
            | slx o n c c' ez hm h1 h2 h3 h4 h5 =>
              have : big ≤ ez * big := Nat.le_mul_of_pos_left _ h2
              omega
          · cases e
        | false =>
          rw [hc, cond_false] at e
          have hcb : ¬ c < big := by
            intro hlt
            have : Nat.blt c big = true := Nat.ble_eq_true_of_le hlt
            rw [this] at hc; cases hc
          cases hx with
          | sl o n c hm hlt => exact (hcb hlt).elim
          | @slx k g s o n c c' ez hm h1 h2 h3 h4 h5 =>
            rw [(div_big h5).1, (div_big h5).2] at e
            split at e
            · rename_i l h0 m hb
              obtain ⟨r, r1, r2, r3, r4, r5, r6⟩ := abounds_ok (P := P) (w := w) (sl := true) hlo hhi hmx h4 hb
              split at e
              · rename_i y
                cases e
                simp only [Option.isSome_some, if_true] at r
                refine .pure h (run_slice_some hE hu hi0 r) ?_
                have e2 : (if m = l then some (⟨g, o, none⟩ : Addr) else (some (⟨g, o, none⟩ : Addr)).map (·.add (l * i.size))) = some ⟨g, (bif Nat.beq m l then o else o + l * i.size), none⟩ := by
                  rw [← slice_addr]; split <;> rfl
                rw [e2]
                have := r2 (by simp)
                exact .sl _ _ _ hm (by omega)
              · cases hcond : (Nat.beq ez i.size && Nat.blt l c && Nat.ble h0 c) with
                | false => rw [hcond] at e; cases e
                | true =>
                  rw [hcond, cond_true] at e
                  cases e
                  simp only [Bool.and_eq_true] at hcond
                  obtain ⟨⟨q1, q2⟩, q3⟩ := hcond
                  have q1 := Nat.eq_of_beq_eq_true q1
                  have q2 : l < c := Nat.le_of_ble_eq_true q2
                  have q3 := Nat.le_of_ble_eq_true q3
                  subst q1
                  simp only [Option.isSome_none, Bool.false_eq_true, if_false] at r
                  refine .pure h (run_slice_some hE hu hi0 r) ?_
                  rw [if_neg (by omega)]
                  simp only [Option.map_some, addr_add]
                  have hll : l ≤ h0 ∨ lo = none := by
                    by_cases hl : lo = none
                    · exact .inr hl
                    · exact .inl (r4 hl)
                  refine .slx _ _ (c - l) (c' - l) i.size hm ?_ h2 (by omega) (by omega) (by omega)
                  have : (c' - l) * i.size + l * i.size = c' * i.size := by rw [← Nat.add_mul]; congr 1; omega
                  omega
            · cases e
      · cases e
    · cases e
  · rename_i k o n el hu
    split at e
    · rename_i i hi0
      split at e
      · rename_i l h0 m hb
        cases hn : Nat.blt n big with
        | false => rw [hn] at e; cases e
        | true =>
          rw [hn, cond_true] at e
          cases e
          have hnb : n < big := Nat.le_of_ble_eq_true hn
          cases hx with
          | @ptr k g s o hm =>
            obtain ⟨r, r1, r2, _⟩ := abounds_ok (P := P) (w := w) (sl := false) hlo hhi hmx (Nat.le_refl _) hb
            have hmm : (if mx.isSome = true then m else n) = m ∧ m ≤ n := by
              cases hm : mx with
              | none => have := r1 hm; simp [this]
              | some y => have := r2 (by simp [hm]); simp [this]
            rw [hmm.1] at r
            refine .pure h (v' := .slice (some (if m = l then (⟨g, o, none⟩ : Addr) else (⟨g, o, none⟩ : Addr).add (l * i.size))) (h0 - l) (m - l)) ?_ ?_
            · simp only [Instr.sliceAt, Sem.run_bind, run_und hE hu, Result.andThen_ok, Instr.sureAddr, Sem.run_pure, r, run_size hE hi0]
            · rw [slice_addr]
              exact .sl _ _ _ hm (by omega)
      · cases e
    · cases e
  · cases e
end
end AM
end Go.Proofs.YtoicnghjjgkebaaGreatDoor
