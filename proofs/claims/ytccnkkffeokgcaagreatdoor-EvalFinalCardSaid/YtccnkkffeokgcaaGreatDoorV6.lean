/-
  The abstract machine's operations, third part: composites are built; slices are made and cut. No condition.
-/
import Derived.Test.YtccnkkffeokgcaaGreatDoorV5
namespace Go.Proofs.YtccnkkffeokgcaaGreatDoor
namespace AM
open Go.RowKit

theorem foldl_setRange (off : Nat) : ∀ (l : List Value) (k : Nat) (C : Array Value), (List.foldl (fun (cs : Array Value) (p : Value × Nat) => cs.setIfInBounds (off + p.2) p.1) C (l.zipIdx k)).toList = setRange C.toList (off + k) l
  | [], k, C => rfl
  | v :: l, k, C => by
    rw [List.zipIdx_cons, List.foldl_cons, foldl_setRange off l (k + 1)]
    simp only [Array.toList_setIfInBounds, setRange]
    rfl
theorem foldl_cells (off : Nat) (v : Array Value) (C : Array Value) : (v.zipIdx.foldl (fun cs (c, j) => cs.setIfInBounds (off + j) c) C).toList = setRange C.toList off v.toList := by
  rw [← Array.foldl_toList, Array.toList_zipIdx]
  exact foldl_setRange off v.toList 0 C
def afill (place : Nat → Option (Nat × Nat)) : List Value → List (Nat × Value) → Option (List Value)
  | cells, [] => some cells
  | cells, (i, v) :: rest => match place i with
    | none => none
    | some (off, size) => bif Nat.beq v.cells.toList.length size && Nat.ble (off + size) cells.length then afill place (setRange cells off v.cells.toList) rest else none
/-- Parts, by their places. -/
def PR (μ : Mp) : List (Nat × Value) → List (Nat × Value) → Prop
  | [], [] => True
  | (i, v) :: l, (j, u) :: m => i = j ∧ VR μ v u ∧ PR μ l m
  | _, _ => False
theorem afill_ok {μ : Mp} {place place' : Nat → Option (Nat × Nat)} (hp : ∀ i, place' i = place i) : ∀ (ps ps' : List (Nat × Value)) (c r : List Value) (c' : Array Value), PR μ ps ps' → LR μ c c'.toList → afill place c ps = some r → ∃ r', Instr.fill place' c' ps' = some r' ∧ LR μ r r'.toList
  | [], [], c, r, c', _, hc, e => by
    simp only [afill, Option.some.injEq] at e
    subst e
    exact ⟨c', rfl, hc⟩
  | (i, v) :: ps, (j, u) :: ps', c, r, c', h, hc, e => by
    obtain ⟨rfl, hv, hps⟩ := h
    simp only [afill] at e
    cases hi : place i with
    | none => simp [hi] at e
    | some q =>
      obtain ⟨off, size⟩ := q
      simp only [hi] at e
      cases hb : (Nat.beq v.cells.toList.length size && Nat.ble (off + size) c.length) with
      | false => rw [hb] at e; cases e
      | true =>
        rw [hb, cond_true] at e
        simp only [Bool.and_eq_true] at hb
        have b1 := Nat.eq_of_beq_eq_true hb.1
        have b2 := Nat.le_of_ble_eq_true hb.2
        have hl := hv.cells
        have l1 := hl.1
        have l2 := hc.1
        simp only [Array.length_toList] at l1 l2 b1
        obtain ⟨r', h1, h2⟩ := afill_ok hp ps ps' _ r (u.cells.zipIdx.foldl (fun cs (c, j) => cs.setIfInBounds (off + j) c) c') hps (by
          rw [foldl_cells]; exact LR.setRange _ _ _ _ off hl hc) e
        refine ⟨r', ?_, h2⟩
        rw [Instr.fill]
        simp only [hp, hi]
        rw [if_neg (by simp; omega)]
        exact h1
  | [], _ :: _, _, _, _, h, _, _ => h.elim
  | _ :: _, [], _, _, _, h, _, _ => h.elim

section
variable {P : Program} {E : Env} {μ : Mp} {H : AH} {w0 : Base} {w : World}
def aplaces (E : Env) : List Field → Option (List (Nat × Nat))
  | [] => some []
  | f :: fs => match E.info f.type, aplaces E fs with
    | some i, some l => some ((f.offset, i.size) :: l)
    | _, _ => none
theorem aplaces_ok (hE : E.Ok P) : ∀ (fs : List Field) (l : List (Nat × Nat)) (w : World), aplaces E fs = some l → (fs.mapM fun f => do pure (f.offset, ← Go.sizeOf f.type) : Sem (List (Nat × Nat))).run P w = .ok l w
  | [], l, w, e => by cases e; rfl
  | f :: fs, l, w, e => by
    simp only [aplaces] at e
    split at e
    · rename_i i m hi hm
      cases e
      have ih := aplaces_ok hE fs m w hm
      simp only [List.mapM_cons, Sem.run_bind, run_size hE hi, Result.andThen_ok, Sem.run_pure, ih]
    · cases e
def abuild (E : Env) (t : Nat) (ps : List (Nat × Value)) : Option Value := match E.info t, E.und t with
  | some i, some d => match i.zero, d with
    | some z, .struct fs => bif z.cells.toList.all (cval 6) then (match aplaces E fs.toList with
        | some l => match afill (fun k => l[k]?) z.cells.toList ps with
          | some r => some (.agg r.toArray)
          | none => none
        | none => none) else none
    | some z, .array _ el => bif z.cells.toList.all (cval 6) then (match E.info el with
        | some j => match afill (fun k => some (k * j.size, j.size)) z.cells.toList ps with
          | some r => some (.agg r.toArray)
          | none => none
        | none => none) else none
    | _, _ => none
  | _, _ => none
theorem AR.of_list {μ : Mp} {l : List Value} {a : Array Value} (h : LR μ l a.toList) : AR μ l.toArray a := by
  have := LR.toArray h
  simpa using this
theorem abuild_ok (hE : E.Ok P) (h : Rel μ H w0 w) {t : Nat} {ps : List (Nat × Value)} {ps' : Array (Nat × Value)} {v : Value} (hp : PR μ ps ps'.toList) (e : abuild E t ps = some v) : GotV P (Instr.build t ps') μ w0 w v H := by
  unfold abuild at e
  split at e
  · rename_i i d hi hu
    split at e
    · rename_i z fs hz
      cases hb : z.cells.toList.all (cval 6) with
      | false => rw [hb] at e; cases e
      | true =>
        rw [hb, cond_true] at e
        split at e
        · rename_i l hl
          split at e
          · rename_i r hr
            cases e
            obtain ⟨r', h1, h2⟩ := afill_ok (place' := fun k => l.toArray[k]?) (fun k => by simp) ps ps'.toList _ r z.cells hp (LR.refl_of hb) hr
            refine .pure h (v' := .agg r') ?_ (.agg (AR.of_list h2).1 (AR.of_list h2).2)
            have hm := aplaces_ok hE fs.toList l w hl
            have hm2 : (fs.mapM fun f => do pure (f.offset, ← Go.sizeOf f.type) : Sem (Array (Nat × Nat))).run P w = .ok l.toArray w := by
              rw [Array.mapM_eq_mapM_toList]
              simp only [Sem.run_map, hm, Result.andThen_ok]
            simp only [Instr.build, Sem.run_bind, run_zero hE hi hz, Result.andThen_ok, run_und hE hu, hm2, h1, Sem.run_pure]
          · cases e
        · cases e
    · rename_i z n el hz
      cases hb : z.cells.toList.all (cval 6) with
      | false => rw [hb] at e; cases e
      | true =>
        rw [hb, cond_true] at e
        split at e
        · rename_i j hj
          split at e
          · rename_i r hr
            cases e
            obtain ⟨r', h1, h2⟩ := afill_ok (place' := fun k => some (k * j.size, j.size)) (fun k => rfl) ps ps'.toList _ r z.cells hp (LR.refl_of hb) hr
            refine .pure h (v' := .agg r') ?_ (.agg (AR.of_list h2).1 (AR.of_list h2).2)
            simp only [Instr.build, Sem.run_bind, run_zero hE hi hz, Result.andThen_ok, run_und hE hu, run_size hE hj, h1, Sem.run_pure]
          · cases e
        · cases e
    · cases e
  · cases e
/-- A zero over and over. -/
def arep (z : Array Value) (n : Nat) : List Value := (List.range n).map fun j => z[j % z.size]!
theorem arep_eq (z : Array Value) (n : Nat) : ((Array.range n).map (z[· % z.size]!)).toList = arep z n := by
  simp [arep, Array.toList_map, Array.toList_range]
/-- A new row and the slice of it. -/
def arow (H : AH) (el : Nat) (c : List Value) (n m : Nat) : Option (Value × AH) :=
  bif Nat.blt (H.next + 1) 1099511627776 && Nat.blt m big then some (.slice (some ⟨H.next, 0, none⟩) n m, H.alloc (.cells c el true true)) else none
theorem arow_ok (h : Rel μ H w0 w) {el n m : Nat} {c : List Value} {v : Value} {H' : AH} {c' : Array Value} (hc : LR μ c c'.toList) (e : arow H el c n m = some (v, H')) :
    GotV P (do pure (.slice (some (← newRow el c')) n m)) μ w0 w v H' := by
  unfold arow at e
  cases hb : (Nat.blt (H.next + 1) 1099511627776 && Nat.blt m big) with
  | false => rw [hb] at e; cases e
  | true =>
    rw [hb] at e
    simp only [cond_true, Option.some.injEq, Prod.mk.injEq] at e
    obtain ⟨rfl, rfl⟩ := e
    simp only [Bool.and_eq_true] at hb
    have hm : m < big := Nat.le_of_ble_eq_true hb.2
    obtain ⟨ν, p, w', h1, h2, h3, h4⟩ := anew_ok (P := P) h (t := el) (v := .pointer (some ⟨H.next, 0, none⟩)) (H' := H.alloc (.cells c el true true)) hc (by unfold anew; rw [hb.1]; rfl)
    cases h4 with
    | @ptr k g s o hm2 =>
      simp only [newRow, newObj, Sem.run_bind, Sem.run, Result.andThen_ok, Sem.run_pure, Result.ok.injEq, Value.pointer.injEq, Option.some.injEq, Addr.mk.injEq, and_true] at h1
      obtain ⟨rfl, rfl⟩ := h1
      refine ⟨ν, .slice (some ⟨w.heap.size, 0, none⟩) n m, _, ?_, h2, h3, .sl 0 n m hm2 hm⟩
      simp only [newRow, newObj, Sem.run_bind, Sem.run, Result.andThen_ok, Sem.run_pure]
end
end AM
end Go.Proofs.YtccnkkffeokgcaaGreatDoor
