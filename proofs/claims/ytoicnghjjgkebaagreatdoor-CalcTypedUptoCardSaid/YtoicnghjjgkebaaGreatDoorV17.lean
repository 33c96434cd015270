/-
  The abstract machine's operations, eleventh part: maps are asked and written. No condition.
  The abstract machine's operations, twelfth part: entries by their stamps, iterators over texts, copies, the least and the greatest. No condition.
  The abstract machine: one operation, other than a call. No condition.
-/
import Derived.Test.YtoicnghjjgkebaaGreatDoorV14
set_option linter.unusedSectionVars false
set_option linter.unusedSimpArgs false
set_option linter.unusedVariables false
set_option linter.unnecessarySimpa false
namespace Go.Proofs.YtoicnghjjgkebaaGreatDoor
namespace AM
open Go.RowKit
variable [Toks]

section
variable {P : Program} {E : Env} {Q : Eqs} {μ : Mp} {H : AH} {w0 : Base} {w : World}
theorem Rel.mapR (h : Rel μ H w0 w) {k : Nat} {es : List (Value × Value × Nat)} {n : Nat} (hk : H.t.get k = some (.map es n)) {g s : Nat} (hm : μ k = some (g, s)) : ∃ F : Array MapEntry, w.heap[g]? = some (.map F n) ∧ MR μ es F.toList := by
  obtain ⟨F, h1, h2, h3⟩ := h.map hk hm
  exact ⟨F, h1, by simpa using h2, fun i e e' a b => h3 i e e' a (by simpa using b)⟩
def alookup (E : Env) (Q : Eqs) (H : AH) (t : Nat) (m key : Value) (ok : Bool) : Option Value := match E.und t with
  | some (.map kt el) => match E.info el, E.und kt with
    | some i, some _ => match i.zero with
      | some z => bif cval 6 z && acheck E 40 kt key then
          (match (match m with
            | .map none => some []
            | .map (some k) => match H.t.get k with
              | some (.map es _) => some es
              | _ => none
            | _ => none) with
          | some es => match afind E Q kt key es 0 with
            | some (some (_, v)) => some (bif ok then .tuple #[v, .bool true] else v)
            | some none => some (bif ok then .tuple #[z, .bool false] else z)
            | none => none
          | none => none) else none
      | none => none
    | _, _ => none
  | _ => none
theorem VR.pair {v v' : Value} (h : VR μ v v') (b : Bool) : VR μ (.tuple #[v, .bool b]) (.tuple #[v', .bool b]) := by
  have := (LR.cons h (LR.cons (VR.bool (μ := μ) b) (.nil μ))).toArray
  exact .tuple this.1 this.2
theorem alookup_ok (hE : E.Ok P) (hQ : Q.Ok P) (h : Rel μ H w0 w) {t : Nat} {m m' key key' v : Value} {ok : Bool} (hm : VR μ m m') (hk : VR μ key key') (e : alookup E Q H t m key ok = some v) : GotV P (Instr.lookup t m' key' ok) μ w0 w v H := by
  unfold alookup at e
  split at e
  · rename_i kt el hu
    split at e
    · rename_i i d hi hkt
      split at e
      · rename_i z hz
        cases hb : (cval 6 z && acheck E 40 kt key) with
        | false => rw [hb] at e; cases e
        | true =>
          rw [hb, cond_true] at e
          rw [Bool.and_eq_true] at hb
          have hck : ∀ em, (Instr.checkKey em 10000 kt key').run P w = .ok () w := fun em => acheck_ok hE 40 kt key key' 10000 em (by decide) hk hb.2
          have fin : ∀ (es : List (Value × Value × Nat)) (F : Array MapEntry), MR μ es F.toList →
              ((m' = .map none ∧ F = #[]) ∨ ∃ g n, m' = .map (some g) ∧ w.heap[g]? = some (.map F n)) →
              (match afind E Q kt key es 0 with
                | some (some (_, v)) => some (bif ok then .tuple #[v, .bool true] else v)
                | some none => some (bif ok then .tuple #[z, .bool false] else z)
                | none => none) = some v → GotV P (Instr.lookup t m' key' ok) μ w0 w v H := by
            intro es F hF hrun e
            split at e
            · rename_i j u hf
              obtain ⟨r', q1, q2⟩ := afind_ok hE hQ h hkt hk hF hf
              cases r' with
              | none => exact q2.elim
              | some r' =>
                obtain ⟨j', u'⟩ := r'
                obtain ⟨rfl, q3⟩ := q2
                cases e
                refine .pure h (v' := if ok then .tuple #[u', .bool true] else u') ?_ ?_
                · rcases hrun with ⟨rfl, rfl⟩ | ⟨g, n, rfl, hF2⟩
                  · simp only [Instr.lookup, Sem.run_bind, run_und hE hu, Result.andThen_ok, hck, q1, Sem.run_pure]
                  · simp only [Instr.lookup, Sem.run_bind, run_und hE hu, Result.andThen_ok, hck, q1, Sem.run_pure, run_getMap hF2]
                · cases ok
                  · exact q3
                  · exact q3.pair true
            · rename_i hf
              obtain ⟨r', q1, q2⟩ := afind_ok hE hQ h hkt hk hF hf
              cases r' with
              | some r' => exact q2.elim
              | none =>
                cases e
                have hzr := cval_ok μ 6 z hb.1
                refine .pure h (v' := if ok then .tuple #[z, .bool false] else z) ?_ ?_
                · rcases hrun with ⟨rfl, rfl⟩ | ⟨g, n, rfl, hF2⟩
                  · simp only [Instr.lookup, Sem.run_bind, run_und hE hu, Result.andThen_ok, hck, q1, Sem.run_pure, run_zero hE hi hz]
                  · simp only [Instr.lookup, Sem.run_bind, run_und hE hu, Result.andThen_ok, hck, q1, Sem.run_pure, run_zero hE hi hz, run_getMap hF2]
                · cases ok
                  · exact hzr
                  · exact hzr.pair false
            · cases e
          split at e
          · rename_i es hes
            split at hes
            · cases hes; cases hm
              exact fin [] #[] ⟨rfl, by simp⟩ (.inl ⟨rfl, rfl⟩) e
            · split at hes
              · rename_i es2 n hkk
                cases hes
                cases hm with
                | map hmm =>
                  obtain ⟨F, hF, hMR⟩ := h.mapR hkk hmm
                  exact fin _ F hMR (.inr ⟨_, _, rfl, hF⟩) e
              · cases hes
            · cases hes
          · cases e
      · cases e
    · cases e
  · cases e
theorem MR.set {es : List (Value × Value × Nat)} {fs : List MapEntry} (h : MR μ es fs) {e : Value × Value × Nat} {e' : MapEntry} (he : VR μ e.1 e'.key ∧ VR μ e.2.1 e'.val ∧ e'.born = e.2.2) (i : Nat) : MR μ (es.set i e) (fs.set i e') := by
  refine ⟨by simp [h.1], fun j a b h1 h2 => ?_⟩
  rw [List.getElem?_set] at h1 h2
  by_cases ej : i = j
  · subst ej
    simp only [if_true] at h1 h2
    split at h1
    · rw [if_pos (by rw [h.1]; assumption)] at h2
      cases h1; cases h2; exact he
    · cases h1
  · rw [if_neg ej] at h1 h2; exact h.2 j a b h1 h2
theorem MR.push {es : List (Value × Value × Nat)} {fs : List MapEntry} (h : MR μ es fs) {e : Value × Value × Nat} {e' : MapEntry} (he : VR μ e.1 e'.key ∧ VR μ e.2.1 e'.val ∧ e'.born = e.2.2) : MR μ (es ++ [e]) (fs ++ [e']) := by
  refine ⟨by simp [h.1], fun j a b h1 h2 => ?_⟩
  rw [List.getElem?_append] at h1 h2
  rw [h.1] at h2
  split at h1
  · rename_i hj
    rw [if_pos hj] at h2
    exact h.2 j a b h1 h2
  · rename_i hj
    rw [if_neg hj] at h2
    cases hd : j - es.length with
    | zero => rw [hd] at h1 h2; cases h1; cases h2; exact he
    | succ m => rw [hd] at h1; simp at h1
theorem MR.blk {es : List (Value × Value × Nat)} {F : Array MapEntry} {n s : Nat} (h : MR μ es F.toList) : BlkR μ s (.map es n) (.map F n) :=
  ⟨F, rfl, by have := h.1; simpa using this, fun i e e' a b => h.2 i e e' a (by simpa using b)⟩
theorem run_setMap (W : World) {g : Nat} {F : Array MapEntry} {n : Nat} (h : W.heap[g]? = some (.map F n)) (o : Obj) : (setObj g o).run P W = .ok () (World.over W g o) := by
  simp only [setObj, Sem.run, h]; rfl
/-- An entry is written. -/
def amapUpdate (E : Env) (Q : Eqs) (H : AH) (t : Nat) (m key v : Value) : Option AH := match E.und t, m with
  | some (.map kt _), .map (some k) => match E.und kt, H.t.get k with
    | some _, some (.map es n) => bif acheck E 40 kt key && cval 6 key then (match afind E Q kt key es 0 with
        | some (some (i, _)) => match es[i]? with
          | some e => bif cval 6 e.1 && Instr.sameBits 10000 e.1 key then some (H.put k (.map (es.set i (key, v, e.2.2)) n)) else none
          | none => none
        | some none => some (H.put k (.map (es ++ [(key, v, n)]) (n + 1)))
        | none => none) else none
    | _, _ => none
  | _, _ => none
theorem modify_set (F : Array MapEntry) (i : Nat) (f : MapEntry → MapEntry) {x : MapEntry} (h : F[i]? = some x) : (F.modify i f).toList = F.toList.set i (f x) := by
  apply List.ext_getElem?
  intro j
  rw [Array.getElem?_toList, Array.getElem?_modify, List.getElem?_set, Array.getElem?_toList]
  have hlt := (Array.getElem?_eq_some_iff.1 h).1
  by_cases e : i = j
  · subst e
    have hx : F[i] = x := by rw [Array.getElem?_eq_getElem hlt] at h; exact Option.some.inj h
    simp [hlt, hx]
  · simp [e]
theorem amapUpdate_ok (hE : E.Ok P) (hQ : Q.Ok P) (h : Rel μ H w0 w) {t : Nat} {m m' key key' v v' : Value} {H' : AH} (hm : VR μ m m') (hk : VR μ key key') (hv : VR μ v v') (e : amapUpdate E Q H t m key v = some H') :
    ∃ w', (Instr.mapUpdate t m' key' v').run P w = .ok () w' ∧ Rel μ H' w0 w' := by
  unfold amapUpdate at e
  split at e
  · rename_i kt el k hu
    split at e
    · rename_i d es n hkt hkk
      cases hb : (acheck E 40 kt key && cval 6 key) with
      | false => rw [hb] at e; cases e
      | true =>
        rw [hb, cond_true] at e
        rw [Bool.and_eq_true] at hb
        have hck : ∀ em, (Instr.checkKey em 10000 kt key').run P w = .ok () w := fun em => acheck_ok hE 40 kt key key' 10000 em (by decide) hk hb.1
        have hkeq := cval_eq 6 key key' hb.2 hk
        subst hkeq
        cases hm with
        | @map _ g s hmm =>
          obtain ⟨F, hF, hMR⟩ := h.mapR hkk hmm
          split at e
          · rename_i i u hf
            split at e
            · rename_i en hen
              cases hb2 : (cval 6 en.1 && Instr.sameBits 10000 en.1 key') with
              | false => rw [hb2] at e; cases e
              | true =>
                rw [hb2, cond_true] at e
                cases e
                rw [Bool.and_eq_true] at hb2
                obtain ⟨r', q1, q2⟩ := afind_ok hE hQ h hkt hk hMR hf
                cases r' with
                | none => exact q2.elim
                | some r' =>
                  obtain ⟨j', u'⟩ := r'
                  obtain ⟨rfl, q3⟩ := q2
                  have hil : i < F.toList.length := by rw [hMR.1]; exact (List.getElem?_eq_some_iff.1 hen).1
                  have hFi : F[i]? = some F.toList[i] := by simp at hil; simp [hil]
                  have hent := hMR.2 i en _ hen (List.getElem?_eq_getElem hil)
                  have hke := cval_eq 6 en.1 _ hb2.1 hent.1
                  refine ⟨World.over w g (.map (F.modify i fun e => { e with key := key', val := v' }) n), ?_, ?_⟩
                  · simp only [Instr.mapUpdate, Sem.run_bind, run_und hE hu, Result.andThen_ok, run_getMap hF, hck, q1, Instr.keyThatStays, hFi, Option.map_some, Option.getD_some, hke, hb2.2, if_true, Sem.run_pure]
                    exact run_setMap w hF _
                  · refine h.over hkk rfl rfl hmm (MR.blk ?_)
                    rw [modify_set F i _ hFi]
                    exact hMR.set (e := (key', v, en.2.2)) (e' := { F.toList[i] with key := key', val := v' }) ⟨hk, hv, hent.2.2⟩ i
            · cases e
          · rename_i hf
            cases e
            obtain ⟨r', q1, q2⟩ := afind_ok hE hQ h hkt hk hMR hf
            cases r' with
            | some r' => exact q2.elim
            | none =>
              refine ⟨World.over w g (.map (F.push { key := key', val := v', born := n }) (n + 1)), ?_, ?_⟩
              · simp only [Instr.mapUpdate, Sem.run_bind, run_und hE hu, Result.andThen_ok, run_getMap hF, hck, q1]
                exact run_setMap w hF _
              · refine h.over hkk rfl rfl hmm (MR.blk ?_)
                rw [Array.toList_push]
                exact hMR.push ⟨hk, hv, rfl⟩
          · cases e
    · cases e
  · cases e
/-- An entry is found, or made, and its value told. -/
def amapEntry (E : Env) (Q : Eqs) (H : AH) (t : Nat) (m key : Value) : Option (Value × AH) := match E.und t, m with
  | some (.map kt el), .map (some k) => match E.und kt, H.t.get k, E.info el with
    | some _, some (.map es n), some i => match i.zero with
      | some z => bif acheck E 40 kt key && cval 6 key && cval 6 z then (match afind E Q kt key es 0 with
        | some (some (i, v)) => match es[i]? with
          | some e => bif cval 6 e.1 && Instr.sameBits 10000 e.1 key then some (.tuple #[v, .int .i64 e.2.2], H.put k (.map (es.set i (key, e.2.1, e.2.2)) n)) else none
          | none => none
        | some none => some (.tuple #[z, .int .i64 n], H.put k (.map (es ++ [(key, z, n)]) (n + 1)))
        | none => none) else none
      | none => none
    | _, _, _ => none
  | _, _ => none
theorem VR.pairI {v v' : Value} (h : VR μ v v') (n : Int) : VR μ (.tuple #[v, .int .i64 n]) (.tuple #[v', .int .i64 n]) := by
  have := (LR.cons h (LR.cons (VR.int (μ := μ) .i64 n) (.nil μ))).toArray
  exact .tuple this.1 this.2
theorem amapEntry_ok (hE : E.Ok P) (hQ : Q.Ok P) (h : Rel μ H w0 w) {t : Nat} {m m' key key' r : Value} {H' : AH} (hm : VR μ m m') (hk : VR μ key key') (e : amapEntry E Q H t m key = some (r, H')) : GotV P (Instr.mapEntry t m' key') μ w0 w r H' := by
  unfold amapEntry at e
  split at e
  · rename_i kt el k hu
    split at e
    · rename_i d es n inf hkt hkk hinf
      split at e
      · rename_i z hz
        cases hb : (acheck E 40 kt key && cval 6 key && cval 6 z) with
        | false => rw [hb] at e; cases e
        | true =>
          rw [hb, cond_true] at e
          simp only [Bool.and_eq_true] at hb
          have hck : ∀ em, (Instr.checkKey em 10000 kt key').run P w = .ok () w := fun em => acheck_ok hE 40 kt key key' 10000 em (by decide) hk hb.1.1
          have hkeq := cval_eq 6 key key' hb.1.2 hk
          subst hkeq
          have hzr := cval_ok μ 6 z hb.2
          cases hm with
          | @map _ g s hmm =>
            obtain ⟨F, hF, hMR⟩ := h.mapR hkk hmm
            split at e
            · rename_i i u hf
              split at e
              · rename_i en hen
                cases hb2 : (cval 6 en.1 && Instr.sameBits 10000 en.1 key') with
                | false => rw [hb2] at e; cases e
                | true =>
                  rw [hb2, cond_true] at e
                  simp only [Option.some.injEq, Prod.mk.injEq] at e
                  obtain ⟨rfl, rfl⟩ := e
                  rw [Bool.and_eq_true] at hb2
                  obtain ⟨r', q1, q2⟩ := afind_ok hE hQ h hkt hk hMR hf
                  cases r' with
                  | none => exact q2.elim
                  | some r' =>
                    obtain ⟨j', u'⟩ := r'
                    obtain ⟨rfl, q3⟩ := q2
                    have hil : i < F.toList.length := by rw [hMR.1]; exact (List.getElem?_eq_some_iff.1 hen).1
                    have hFi : F[i]? = some F.toList[i] := by simp at hil; simp [hil]
                    have hent := hMR.2 i en _ hen (List.getElem?_eq_getElem hil)
                    have hke := cval_eq 6 en.1 _ hb2.1 hent.1
                    refine ⟨μ, .tuple #[u', .int .i64 en.2.2], World.over w g (.map (F.modify i fun e => { e with key := key' }) n), ?_, .refl μ, ?_, q3.pairI _⟩
                    · simp only [Instr.mapEntry, Sem.run_bind, run_und hE hu, Result.andThen_ok, run_getMap hF, hck, q1, Instr.keyThatStays, hFi, Option.map_some, Option.getD_some, hke, hb2.2, if_true, Sem.run_pure, run_setMap w hF, hent.2.2, goInt]
                    · refine h.over hkk rfl rfl hmm (MR.blk ?_)
                      rw [modify_set F i _ hFi]
                      exact hMR.set (e := (key', en.2.1, en.2.2)) (e' := { F.toList[i] with key := key' }) ⟨hk, hent.2.1, hent.2.2⟩ i
              · cases e
            · rename_i hf
              simp only [Option.some.injEq, Prod.mk.injEq] at e
              obtain ⟨rfl, rfl⟩ := e
              obtain ⟨r', q1, q2⟩ := afind_ok hE hQ h hkt hk hMR hf
              cases r' with
              | some r' => exact q2.elim
              | none =>
                refine ⟨μ, .tuple #[z, .int .i64 n], World.over w g (.map (F.push { key := key', val := z, born := n }) (n + 1)), ?_, .refl μ, ?_, hzr.pairI _⟩
                · simp only [Instr.mapEntry, Sem.run_bind, run_und hE hu, Result.andThen_ok, run_getMap hF, hck, q1, run_zero hE hinf hz, run_setMap w hF, Sem.run_pure, goInt]
                · refine h.over hkk rfl rfl hmm (MR.blk ?_)
                  rw [Array.toList_push]
                  exact hMR.push ⟨hk, hzr, rfl⟩
            · cases e
      · cases e
    · cases e
  · cases e
end
end AM
end Go.Proofs.YtoicnghjjgkebaaGreatDoor
namespace Go.Proofs.YtoicnghjjgkebaaGreatDoor
namespace AM
open Go.RowKit
variable [Toks]

section
variable {P : Program} {E : Env} {Q : Eqs} {μ : Mp} {H : AH} {w0 : Base} {w : World}
def aentryStore (H : AH) (m stamp v : Value) : Option AH := match m, stamp with
  | .map (some k), .int _ born => match H.t.get k with
    | some (.map es n) => match es.findIdx? (fun e => ((e.2.2 : Nat) : Int) == born) with
      | some i => match es[i]? with
        | some e => some (H.put k (.map (es.set i (e.1, v, e.2.2)) n))
        | none => none
      | none => none
    | _ => none
  | _, _ => none
theorem findIdx_MR {es : List (Value × Value × Nat)} {fs : List MapEntry} (h : MR μ es fs) (born : Int) : fs.findIdx? (fun e => ((e.born : Nat) : Int) == born) = es.findIdx? (fun e => ((e.2.2 : Nat) : Int) == born) := by
  induction es generalizing fs with
  | nil =>
    have : fs = [] := by have := h.1; simpa using this
    subst this; rfl
  | cons e es ih =>
    obtain ⟨f, gs, rfl, ⟨_, _, h3⟩, h4⟩ := h.inv
    rw [List.findIdx?_cons, List.findIdx?_cons, ih h4, h3]
theorem aentryStore_ok (h : Rel μ H w0 w) {t : Nat} {m m' s s' v v' : Value} {H' : AH} (hm : VR μ m m') (hs : VR μ s s') (hv : VR μ v v') (e : aentryStore H m s v = some H') :
    ∃ w', (Instr.entryStore t m' s' v').run P w = .ok () w' ∧ Rel μ H' w0 w' := by
  unfold aentryStore at e
  split at e
  · cases hs
    cases hm with
    | @map k g s hmm =>
      split at e
      · rename_i es n hk
        obtain ⟨F, hF, hMR⟩ := h.mapR hk hmm
        split at e
        · rename_i i hi
          split at e
          · rename_i en hen
            cases e
            have hfi := findIdx_MR hMR
            rw [← hfi] at hi
            have hfa : ∀ p : MapEntry → Bool, F.findIdx? p = F.toList.findIdx? p := fun p => by
              have := List.findIdx?_toArray p F.toList
              rwa [Array.toArray_toList] at this
            rw [← hfa] at hi
            have hil : i < F.toList.length := by rw [hMR.1]; exact (List.getElem?_eq_some_iff.1 hen).1
            have hFi : F[i]? = some F.toList[i] := by simp at hil; simp [hil]
            have hent := hMR.2 i en _ hen (List.getElem?_eq_getElem hil)
            refine ⟨World.over w g (.map (F.modify i fun e => { e with val := v' }) n), ?_, ?_⟩
            · simp only [Instr.entryStore, Sem.run_bind, run_getMap hF, Result.andThen_ok, asInt, asIntOf, Sem.run_pure, hi]
              exact run_setMap w hF _
            · refine h.over hk rfl rfl hmm (MR.blk ?_)
              rw [modify_set F i _ hFi]
              exact hMR.set (e := (en.1, v, en.2.2)) (e' := { F.toList[i] with val := v' }) ⟨hent.1, hv, hent.2.2⟩ i
          · cases e
        · cases e
      · cases e
  · cases e
/-- An iterator over a text. -/
def arangeS (E : Env) (H : AH) (t : Nat) : Value → Option (Value × AH)
  | .string s => match E.und t with
    | some .string => bif Nat.blt (H.next + 1) 1099511627776 then some (.pointer (some ⟨H.next, 0, none⟩), H.alloc (.siter s 0)) else none
    | _ => none
  | _ => none
theorem arangeS_ok (hE : E.Ok P) (h : Rel μ H w0 w) {t : Nat} {x x' r : Value} {H' : AH} (hx : VR μ x x') (e : arangeS E H t x = some (r, H')) : GotV P (Instr.range t x') μ w0 w r H' := by
  unfold arangeS at e
  split at e
  · rename_i s
    cases hx
    split at e
    · rename_i hu
      cases hb : Nat.blt (H.next + 1) 1099511627776 with
      | false => rw [hb] at e; cases e
      | true =>
        rw [hb] at e; cases e
        have b1 : H.next + 1 < 1099511627776 := Nat.le_of_ble_eq_true hb
        obtain ⟨ν, n1, n2, n3⟩ := h.alloc (by omega) (b := .siter s 0) (o := .stringIter s 0) (s := 0) rfl
        refine ⟨ν, .pointer (some ⟨w.heap.size, 0, none⟩), w.alloc (.stringIter s 0), ?_, n1, n3, .ptr 0 n2⟩
        simp only [Instr.range, Sem.run_bind, run_und hE hu, Result.andThen_ok, Sem.run_pure, newObj, Sem.run]
        rfl
    · cases e
  · cases e
theorem Rel.siter (h : Rel μ H w0 w) {k : Nat} {s : ByteArray} {p : Nat} (hk : H.t.get k = some (.siter s p)) {g z : Nat} (hm : μ k = some (g, z)) : w.heap[g]? = some (.stringIter s p) := by
  obtain ⟨g', s', e1, l1, _⟩ := h.lies k _ hk
  rw [hm] at e1; cases e1
  obtain ⟨o, ho, rfl⟩ := l1 rfl
  exact ho
def anextS (H : AH) : Value → Option (Value × AH)
  | .pointer (some ⟨k, 0, none⟩) => match H.t.get k with
    | some (.siter s p) => bif Nat.blt p s.size then
        some (.tuple #[.bool true, .int .i64 p, .int .i32 (Utf8.decode s p).1], H.put k (.siter s (p + (Utf8.decode s p).2)))
      else some (.tuple #[.bool false], H)
    | _ => none
  | _ => none
theorem anextS_ok (h : Rel μ H w0 w) {ty : Nat} {x x' r : Value} {H' : AH} (hx : VR μ x x') (e : anextS H x = some (r, H')) : GotV P (Instr.next x' true ty) μ w0 w r H' := by
  unfold anextS at e
  split at e
  · rename_i k
    cases hx with
    | @ptr _ g z _ hm =>
      split at e
      · rename_i s p hk
        have hg := h.siter hk hm
        have hgo : (getObj g).run P w = .ok (.stringIter s p) w := by simp only [getObj, Sem.run, hg]
        cases hb : Nat.blt p s.size with
        | true =>
          rw [hb, cond_true] at e
          cases e
          have hb : p < s.size := Nat.le_of_ble_eq_true hb
          refine ⟨μ, .tuple #[.bool true, .int .i64 p, .int .i32 (Utf8.decode s p).1], World.over w g (.stringIter s (p + (Utf8.decode s p).2)), ?_, .refl μ, h.over hk rfl rfl hm rfl, ?_⟩
          · have hso : (setObj g (.stringIter s (p + (Utf8.decode s p).2))).run P w = .ok () (World.over w g (.stringIter s (p + (Utf8.decode s p).2))) := by simp only [setObj, Sem.run, hg]; rfl
            simp only [Instr.next, Sem.run_bind, hgo, Result.andThen_ok, if_pos hb, hso, Sem.run_pure, goInt]
          · exact cval_ok μ 3 _ (by rfl)
        | false =>
          rw [hb, cond_false] at e
          cases e
          have hb : ¬ p < s.size := fun hlt => by
            have : Nat.blt p s.size = true := Nat.ble_eq_true_of_le hlt
            rw [this] at hb; cases hb
          refine .pure h (v' := .tuple #[.bool false]) ?_ (cval_ok μ 3 _ (by rfl))
          simp only [Instr.next, Sem.run_bind, hgo, Result.andThen_ok, if_neg hb, Sem.run_pure]
      · cases e
  · cases e
/-- The least, the greatest. -/
def allScalar (as : List Value) : Bool := as.all isScalar
theorem LR.scalars {l l' : List Value} (h : LR μ l l') (hs : allScalar l = true) : l' = l := by
  apply List.ext_getElem (by rw [h.1])
  intro i h1 h2
  exact (h.2 i _ _ (List.getElem?_eq_getElem h2) (List.getElem?_eq_getElem h1)).scalar (List.all_eq_true.1 hs _ (List.getElem_mem h2))
def aminmax (P : Program) (f : Array Value → Sem Value) (as : List Value) : Option Value := bif allScalar as then asc (pureRun P (f as.toArray)) else none
theorem aminmax_ok (h : Rel μ H w0 w) {f : Array Value → Sem Value} {as : List Value} {as' : Array Value} {r : Value} (ha : LR μ as as'.toList) (e : aminmax P f as = some r) : GotV P (f as') μ w0 w r H := by
  unfold aminmax at e
  cases hs : allScalar as with
  | false => rw [hs] at e; cases e
  | true =>
    rw [hs, cond_true] at e
    have := LR.scalars ha hs
    have e2 : as' = as.toArray := by apply Array.ext'; simpa using this
    rw [e2]
    exact asc_ok h e
/-- A copy. -/
def asrc (H : AH) (size dLen : Nat) : Value → Option (Nat × List Value)
  | .slice none m _ => bif Nat.beq m 0 then some (0, []) else none
  | .slice (some ⟨k, o, none⟩) m _ => match H.t.get k with
    | some (.cells c _ _ _) => bif Nat.ble (o + Nat.min m dLen * size) c.length then some (Nat.min m dLen, (c.drop o).take (Nat.min m dLen * size)) else none
    | _ => none
  | .string s => bif Nat.beq size 1 then some (Nat.min s.size dLen, (s.data.toList.take (Nat.min s.size dLen)).map fun b => .int .u8 b.toNat) else none
  | _ => none
theorem asrc_ok (h : Rel μ H w0 w) {size dLen n : Nat} {x x' : Value} {l : List Value} (hx : VR μ x x') (e : asrc H size dLen x = some (n, l)) :
    ∃ m arr, (Builtin.lenOf x').run P w = .ok m w ∧ Nat.min m dLen = n ∧ (Builtin.firstCells size n x').run P w = .ok arr w ∧ LR μ l arr.toList := by
  unfold asrc at e
  split at e
  · rename_i m c
    cases hb : Nat.beq m 0 with
    | false => rw [hb] at e; cases e
    | true =>
      rw [hb] at e; cases e
      have := Nat.eq_of_beq_eq_true hb
      subst this
      cases hx
      exact ⟨0, #[], rfl, Nat.zero_min _, rfl, .nil μ⟩
  · rename_i k o m c
    split at e
    · rename_i c' el x rw hk
      cases hb : Nat.ble (o + Nat.min m dLen * size) c'.length with
      | false => rw [hb] at e; cases e
      | true =>
        rw [hb, cond_true] at e; cases e
        have hb := Nat.le_of_ble_eq_true hb
        have key : ∀ g s, μ k = some (g, s) → ∃ arr, (loadCells ⟨g, o, none⟩ (Nat.min m dLen * size)).run P w = .ok arr w ∧ LR μ ((c'.drop o).take (Nat.min m dLen * size)) arr.toList := by
          intro g s hm
          obtain ⟨arr, r1, r2⟩ := h.loads (P := P) hk hm (Nat.min m dLen * size) 0 o #[] #[] (by simpa using hb) ⟨rfl, by simp⟩
          simp only [Nat.add_zero, Array.empty_append] at r2
          exact ⟨arr, r1, by have := AR.toList r2; simpa using this⟩
        cases hx with
        | sl _ _ _ hm hc => obtain ⟨arr, r1, r2⟩ := key _ _ hm; exact ⟨m, arr, rfl, rfl, r1, r2⟩
        | slx _ _ _ c2 ez hm a1 a2 a3 a4 a5 => obtain ⟨arr, r1, r2⟩ := key _ _ hm; exact ⟨m, arr, rfl, rfl, r1, r2⟩
    · cases e
  · rename_i s
    cases hb : Nat.beq size 1 with
    | false => rw [hb] at e; cases e
    | true =>
      rw [hb, cond_true] at e
      cases e
      cases hx
      refine ⟨s.size, (s.extract 0 (Nat.min s.size dLen)).data.map fun b => .int .u8 b.toNat, rfl, rfl, rfl, ?_⟩
      have hs : ((s.extract 0 (Nat.min s.size dLen)).data.map fun b => Value.int .u8 b.toNat).toList = (s.data.toList.take (Nat.min s.size dLen)).map fun b => .int .u8 b.toNat := by
        rw [Array.toList_map, ByteArray.data_extract, Array.toList_extract]
        simp [List.extract]
      rw [hs]
      refine ⟨rfl, fun i v v' h1 h2 => ?_⟩
      rw [h1] at h2; cases h2
      rw [List.getElem?_map] at h1
      cases hd : (s.data.toList.take (Nat.min s.size dLen))[i]? with
      | none => rw [hd] at h1; cases h1
      | some b => rw [hd] at h1; cases h1; exact .int _ _
  · cases e
def acopy (E : Env) (H : AH) (t : Nat) (d s : Value) : Option (Value × AH) := match E.und t, d with
  | some (.slice el), .slice base dLen _ => match E.info el with
    | some i => match asrc H i.size dLen s, base with
      | some (n, l), some ⟨k, o, none⟩ => match H.t.get k with
        | some (.cells c el2 ex true) => bif Nat.ble (o + l.length) c.length && l.all (·.oneCell') then some (.int .i64 n, H.put k (.cells (setRange c o l) el2 ex true)) else none
        | _ => none
      | some (n, []), none => some (.int .i64 n, H)
      | _, _ => none
    | none => none
  | _, _ => none
theorem acopy_ok (hE : E.Ok P) (h : Rel μ H w0 w) {t ts ty : Nat} {d d' s s' r : Value} {H' : AH} (hd : VR μ d d') (hs : VR μ s s') (e : acopy E H t d s = some (r, H')) : GotV P (Builtin.copy_ #[t, ts] ty #[d', s']) μ w0 w r H' := by
  unfold acopy at e
  split at e
  · rename_i el base dLen cap hu
    split at e
    · rename_i i hi
      split at e
      · rename_i n l k o hsrc
        obtain ⟨m, arr, r1, r2, r3, r4⟩ := asrc_ok (P := P) h hs hsrc
        split at e
        · rename_i c el2 ex hk
          cases hb : (Nat.ble (o + l.length) c.length && l.all (·.oneCell')) with
          | false => rw [hb] at e; cases e
          | true =>
            rw [hb, cond_true] at e
            cases e
            rw [Bool.and_eq_true] at hb
            have hle := Nat.le_of_ble_eq_true hb.1
            have key : ∀ g z cc, μ k = some (g, z) → GotV P (Builtin.copy_ #[t, ts] ty #[.slice (some ⟨g, o, none⟩) dLen cc, s']) μ w0 w (.int .i64 n) (H.put k (.cells (setRange c o l) el2 ex true)) := by
              intro g z cc hm
              obtain ⟨w', q1, q2⟩ := Rel.stores (P := P) hm l arr.toList H c w 0 o h hk r4 hb.2 (by omega)
              refine ⟨μ, .int .i64 n, w', ?_, .refl μ, by simpa using q2, .int _ _⟩
              simp [Builtin.copy_, run_und hE hu, run_size hE hi, r1, r2, r3, q1, goInt]
            cases hd with
            | sl _ _ _ hm hc => exact key _ _ _ hm
            | slx _ _ _ c2 ez hm a1 a2 a3 a4 a5 => exact key _ _ _ hm
        · cases e
      · rename_i n hsrc
        cases e
        obtain ⟨m, arr, r1, r2, r3, r4⟩ := asrc_ok (P := P) h hs hsrc
        cases hd
        refine .pure h (v' := .int .i64 n) ?_ (.int _ _)
        simp [Builtin.copy_, run_und hE hu, run_size hE hi, r1, r2, r3, goInt]
      · cases e
    · cases e
  · cases e
/-- What an interface holds. -/
def aassert (E : Env) (asserted : Nat) (ok : Bool) : Value → Option Value
  | .iface t v => match E.und asserted with
    | some (.interface want) => match E.info t with
      | some i => match Instr.missingMethod want i.methods with
        | none => some (bif ok then .tuple #[.iface t v, .bool true] else .iface t v)
        | some _ => none
      | none => none
    | some _ => bif Nat.beq t asserted then some (bif ok then .tuple #[v, .bool true] else v) else none
    | none => none
  | _ => none
theorem aassert_ok (hE : E.Ok P) (h : Rel μ H w0 w) {xt asserted : Nat} {ok : Bool} {x x' r : Value} (hx : VR μ x x') (e : aassert E asserted ok x = some r) : GotV P (Instr.typeAssert x' xt asserted ok) μ w0 w r H := by
  unfold aassert at e
  split at e
  · rename_i t v
    cases hx with
    | @iface _ _ v' hv =>
      split at e
      · rename_i want hu
        split at e
        · rename_i i hi
          split at e
          · rename_i hm
            cases e
            refine .pure h (v' := if ok then .tuple #[.iface t v', .bool true] else .iface t v') ?_ ?_
            · simp only [Instr.typeAssert, Sem.run_bind, run_und hE hu, Result.andThen_ok, run_info hE hi, hm, Sem.run_pure]
            · cases ok
              · exact .iface t hv
              · exact (VR.iface t hv).pair true
          · cases e
        · cases e
      · rename_i d hn hu
        cases hb : Nat.beq t asserted with
        | false => rw [hb] at e; cases e
        | true =>
          rw [hb, cond_true] at e
          cases e
          have := Nat.eq_of_beq_eq_true hb
          subst this
          refine .pure h (v' := if ok then .tuple #[v', .bool true] else v') ?_ ?_
          · simp only [Instr.typeAssert, Sem.run_bind, run_und hE hu, Result.andThen_ok]
            cases d <;> first | (exact (hn _ rfl).elim) | (simp only [if_true, Sem.run_pure])
          · cases ok
            · exact hv
            · exact hv.pair true
      · cases e
  · cases e
end
end AM
end Go.Proofs.YtoicnghjjgkebaaGreatDoor
namespace Go.Proofs.YtoicnghjjgkebaaGreatDoor
namespace AM
open Go.RowKit
variable [Toks]

section
variable {P : Program} {E : Env} {Q : Eqs} {μ : Mp} {H : AH} {w0 : Base} {w : World} {T : Nat → Option Value} {a : Act}
def aevals (T : Nat → Option Value) : List Operand → Option (List Value)
  | [] => some []
  | x :: xs => match aeval T x, aevals T xs with
    | some v, some l => some (v :: l)
    | _, _ => none
theorem aevals_ok (h : TR μ T a.tmps) : ∀ (xs : List Operand) (l : List Value), aevals T xs = some l → LR μ l (xs.map a.eval)
  | [], l, e => by cases e; exact .nil μ
  | x :: xs, l, e => by
    simp only [aevals] at e
    split at e
    · rename_i v m hv hm
      cases e
      exact .cons (aeval_ok h hv) (aevals_ok h xs m hm)
    · cases e
def aparts (T : Nat → Option Value) : List (Nat × Operand) → Option (List (Nat × Value))
  | [] => some []
  | (i, x) :: xs => match aeval T x, aparts T xs with
    | some v, some l => some ((i, v) :: l)
    | _, _ => none
theorem aparts_ok (h : TR μ T a.tmps) : ∀ (xs : List (Nat × Operand)) (l : List (Nat × Value)), aparts T xs = some l → PR μ l (xs.map fun (i, x) => (i, a.eval x))
  | [], l, e => by cases e; trivial
  | (i, x) :: xs, l, e => by
    simp only [aparts] at e
    split at e
    · rename_i v m hv hm
      cases e
      exact ⟨rfl, aeval_ok h hv, aparts_ok h xs m hm⟩
    · cases e
def aopt (T : Nat → Option Value) : Option Operand → Option (Option Value)
  | none => some none
  | some x => match aeval T x with
    | some v => some (some v)
    | none => none
theorem aopt_ok (h : TR μ T a.tmps) {x : Option Operand} {v : Option Value} (e : aopt T x = some v) : OR μ v (x.map a.eval) := by
  cases x with
  | none => cases e; trivial
  | some x =>
    simp only [aopt] at e
    split at e
    · rename_i u hu; cases e; exact aeval_ok h hu
    · cases e
def abuildSlice (E : Env) (H : AH) (t len : Nat) (ps : List (Nat × Value)) : Option (Value × AH) := match E.und t with
  | some (.slice el) => match E.info el with
    | some i => match i.zero with
      | some z =>
        let l := arep (bif Nat.beq (len * i.size) 0 then #[] else z.cells) (len * i.size)
        bif l.all (cval 6) && Nat.ble (len * i.size) 1048576 then (match afill (fun k => some (k * i.size, i.size)) l ps with
          | some r => arow H el r len len
          | none => none) else none
      | none => none
    | none => none
  | _ => none
theorem abuildSlice_ok (hE : E.Ok P) (h : Rel μ H w0 w) {t len : Nat} {ps : List (Nat × Value)} {ps' : Array (Nat × Value)} {v : Value} {H' : AH} (hp : PR μ ps ps'.toList) (e : abuildSlice E H t len ps = some (v, H')) : GotV P (Instr.buildSlice t len ps') μ w0 w v H' := by
  unfold abuildSlice at e
  split at e
  · rename_i el hu
    split at e
    · rename_i i hi
      split at e
      · rename_i z hz
        dsimp only at e
        cases hc : ((arep (bif Nat.beq (len * i.size) 0 then #[] else z.cells) (len * i.size)).all (cval 6) && Nat.ble (len * i.size) 1048576) with
        | false => rw [hc] at e; cases e
        | true =>
          rw [hc, cond_true] at e
          rw [Bool.and_eq_true] at hc
          have hle := Nat.le_of_ble_eq_true hc.2
          split at e
          · rename_i r hr
            obtain ⟨r', h1, h2⟩ := afill_ok (place' := fun k => some (k * i.size, i.size)) (fun k => rfl) ps ps'.toList _ r ((Array.range (len * i.size)).map ((bif Nat.beq (len * i.size) 0 then #[] else z.cells)[· % (bif Nat.beq (len * i.size) 0 then #[] else z.cells).size]!)) hp (by rw [arep_eq]; exact LR.refl_of hc.1) hr
            obtain ⟨ν, v', w', r1, r2⟩ := arow_ok (P := P) h h2 e
            refine ⟨ν, v', w', ?_, r2⟩
            rw [← r1]
            simp only [Instr.buildSlice, Sem.run_bind, run_und hE hu, run_size hE hi, Result.andThen_ok]
            rw [if_neg (by omega)]
            by_cases h0 : len * i.size = 0
            · rw [h0] at h1
              simp only [show Nat.beq 0 0 = true from rfl, cond_true] at h1
              rw [if_pos h0, h0]
              simp only [Sem.run_bind, Sem.run_pure, Result.andThen_ok, h1]
            · rw [beq_ne h0, cond_false] at h1
              rw [if_neg h0]
              simp only [Sem.run_bind, run_zero hE hi hz, Result.andThen_ok, Sem.run_pure, h1]
          · cases e
      · cases e
    · cases e
  · cases e
def optSc : Option Value → Bool
  | none => true
  | some v => isScalar v
theorem OR.scalar {x x' : Option Value} (h : OR μ x x') (hs : optSc x = true) : x' = x := by
  cases x with
  | none => cases x' with
    | none => rfl
    | some _ => exact h.elim
  | some v => cases x' with
    | none => exact h.elim
    | some u => rw [VR.scalar h hs]
def pairH (H : AH) (r : Option Value) : Option (Value × AH) := match r with
  | some v => some (v, H)
  | none => none
def pairU (r : Option AH) : Option (Value × AH) := match r with
  | some H => some (undef, H)
  | none => none
def aop (P : Program) (E : Env) (Q : Eqs) (T : Nat → Option Value) (H : AH) : Op → Option (Value × AH)
  | .move x | .assign x => pairH H (aeval T x)
  | .pick c x y => match aeval T c with
    | some (.bool t) => pairH H (bif t then aeval T x else aeval T y)
    | _ => none
  | .alloc e => match E.info e with
    | some i => match i.zero with
      | some z => bif z.cells.toList.all (cval 6) then anew H e z.cells.toList else none
      | none => none
    | none => none
  | .box e x => match aeval T x with
    | some v => anew H e v.cells.toList
    | none => none
  | .build t ps => match aparts T ps.toList with
    | some l => pairH H (abuild E t l)
    | none => none
  | .buildSlice t n ps => match aparts T ps.toList with
    | some l => abuildSlice E H t n l
    | none => none
  | .load t x => match aeval T x with
    | some v => pairH H (aload E H t v)
    | none => none
  | .store t x y => match aeval T x, aeval T y with
    | some v, some u => pairU (astore E H t u v)
    | _, _ => none
  | .nilCheck x => match aeval T x with
    | some v => pairH H (anilCheck v)
    | none => none
  | .binOp op t x y _ => match aeval T x, aeval T y with
    | some v, some u => pairH H (abin P E Q H op t (isConstB x) (isConstB y) v u)
    | _, _ => none
  | .unOp op _ x => match aeval T x with
    | some v => pairH H (aun P op v)
    | none => none
  | .convert s d x => match aeval T x with
    | some v => aconvP P E H s d v
    | none => none
  | .makeInterface t x => match aeval T x, E.und t with
    | some v, some d => match d with
      | .interface _ => none
      | _ => some (.iface t v, H)
    | _, _ => none
  | .makeFunc (.func f) xs ys => match aevals T xs.toList, aevals T ys.toList with
    | some l, some m => some (.func (.func f) l.toArray m.toArray, H)
    | _, _ => none
  | .makeMap t r => match aopt T r with
    | some none => amakeMap H
    | some (some (.int _ _)) => match E.und t with
      | some (.map _ _) => amakeMap H
      | _ => none
    | _ => none
  | .makeSlice t x y => match aeval T x, aeval T y with
    | some v, some u => amakeSlice E H t v u
    | _, _ => none
  | .slice t x lo hi mx => match aeval T x, aopt T lo, aopt T hi, aopt T mx with
    | some v, some l, some h, some m => pairH H (bif isScalar v then (bif optSc l && optSc h && optSc m then asc (pureRun P (Instr.sliceAt t v l h m)) else none) else aslice E t v l h m)
    | _, _, _, _ => none
  | .fieldAddr s x f => match aeval T x with
    | some v => pairH H (afieldAddr E s f v)
    | none => none
  | .field s x f => match aeval T x with
    | some v => pairH H (afield E s f v)
    | none => none
  | .indexAddr t x i => match aeval T x, aeval T i with
    | some v, some u => pairH H (aindexAddr E t v u)
    | _, _ => none
  | .index t x i => match aeval T x, aeval T i with
    | some v, some u => pairH H (aindex E t v u)
    | _, _ => none
  | .lookup t x i ok => match aeval T x, aeval T i with
    | some v, some u => pairH H (alookup E Q H t v u ok)
    | _, _ => none
  | .mapUpdate t m k x | .insert t m k x => match aeval T m, aeval T k, aeval T x with
    | some v, some u, some y => pairU (amapUpdate E Q H t v u y)
    | _, _, _ => none
  | .mapEntry t m k => match aeval T m, aeval T k with
    | some v, some u => amapEntry E Q H t v u
    | _, _ => none
  | .entryStore _ m s x => match aeval T m, aeval T s, aeval T x with
    | some v, some u, some y => pairU (aentryStore H v u y)
    | _, _, _ => none
  | .range t x => match aeval T x with
    | some v => arangeS E H t v
    | none => none
  | .next x true => match aeval T x with
    | some v => anextS H v
    | none => none
  | .extract x i => match aeval T x with
    | some v => pairH H (aextract i v)
    | none => none
  | .typeAssert x _ as ok => match aeval T x with
    | some v => pairH H (aassert E as ok v)
    | none => none
  | _ => none
theorem pairH_some {r : Option Value} {v : Value} {K : AH} (e : pairH H r = some (v, K)) : r = some v ∧ K = H := by
  unfold pairH at e
  split at e
  · cases e; exact ⟨rfl, rfl⟩
  · cases e
theorem pairU_some {r : Option AH} {v : Value} {K : AH} (e : pairU r = some (v, K)) : r = some K ∧ v = undef := by
  unfold pairU at e
  split at e
  · cases e; exact ⟨rfl, rfl⟩
  · cases e
theorem Got.unit {s : Sem Unit} {H' : AH} (h : ∃ w', s.run P w = .ok () w' ∧ Rel μ H' w0 w') : Got P (do s; pure .skip) μ w0 w undef H' := by
  obtain ⟨w', h1, h2⟩ := h
  exact ⟨μ, .skip, undef, w', by simp [h1], .inr ⟨rfl, rfl⟩, .refl μ, h2, cval_ok μ 3 undef rfl⟩
theorem Got.now (h : Rel μ H w0 w) {v v' : Value} (hv : VR μ v v') : Got P (pure (.value v')) μ w0 w v H := ⟨μ, _, v', w, rfl, .inl rfl, .refl μ, h, hv⟩
theorem PR.map {l : List (Nat × Value)} {ps : Array (Nat × Operand)} (h : PR μ l (ps.toList.map fun (i, x) => (i, a.eval x))) : PR μ l (ps.map fun (i, x) => (i, a.eval x)).toList := by
  rw [Array.toList_map]; exact h
theorem LR.map {l : List Value} {ps : Array Operand} (h : LR μ l (ps.toList.map a.eval)) : LR μ l (ps.map a.eval).toList := by
  rw [Array.toList_map]; exact h
theorem aop_ok (hE : E.Ok P) (hQ : Q.Ok P) (h : Rel μ H w0 w) (ht : TR μ T a.tmps) {o : Oper} {v : Value} {H' : AH} (e : aop P E Q T H o.op = some (v, H')) : Got P (execOp a.eval o) μ w0 w v H' := by
  have ev := fun {x : Operand} {v : Value} (e : aeval T x = some v) => aeval_ok ht e
  unfold execOp
  cases ho : o.op <;> rw [ho] at e <;> simp only [aop] at e <;> dsimp only
  case move x =>
    obtain ⟨h1, rfl⟩ := pairH_some e
    exact .now h (ev h1)
  case assign x =>
    obtain ⟨h1, rfl⟩ := pairH_some e
    exact .now h (ev h1)
  case pick c x y =>
    split at e
    · rename_i t hc
      obtain ⟨h1, rfl⟩ := pairH_some e
      have hb := ev hc
      generalize a.eval c = cv at hb
      cases hb
      cases t with
      | true => exact ⟨μ, .value (a.eval x), a.eval x, w, by simp [asBool], .inl rfl, .refl μ, h, ev h1⟩
      | false => exact ⟨μ, .value (a.eval y), a.eval y, w, by simp [asBool], .inl rfl, .refl μ, h, ev h1⟩
    · cases e
  case alloc t =>
    split at e
    · rename_i i hi
      split at e
      · rename_i z hz
        cases hb : z.cells.toList.all (cval 6) with
        | false => rw [hb] at e; cases e
        | true =>
          rw [hb, cond_true] at e
          have := anew_ok (P := P) h (c' := z.cells) (LR.refl_of hb) e
          apply GotV.val
          obtain ⟨ν, v', w', r1, r2⟩ := this
          refine ⟨ν, v', w', ?_, r2⟩
          rw [← r1]
          simp only [Instr.alloc, Sem.run_bind, run_zero hE hi hz, Result.andThen_ok, newVar]
      · cases e
    · cases e
  case box t x =>
    split at e
    · rename_i u hu
      have := anew_ok (P := P) h (c' := (a.eval x).cells) (ev hu).cells e
      exact GotV.val this
    · cases e
  case build t ps =>
    split at e
    · rename_i l hl
      obtain ⟨h1, rfl⟩ := pairH_some e
      exact (abuild_ok hE h (aparts_ok ht _ l hl).map h1).val
    · cases e
  case buildSlice t n ps =>
    split at e
    · rename_i l hl
      exact (abuildSlice_ok hE h (aparts_ok ht _ l hl).map e).val
    · cases e
  case insert t m k x =>
    split at e
    · rename_i v1 v2 v3 h1 h2 h3
      obtain ⟨h4, rfl⟩ := pairU_some e
      exact .unit (amapUpdate_ok hE hQ h (ev h1) (ev h2) (ev h3) h4)
    · cases e
  case load t x =>
    split at e
    · rename_i u hu
      obtain ⟨h1, rfl⟩ := pairH_some e
      exact (aload_ok hE h (ev hu) h1).val
    · cases e
  case store t x y =>
    split at e
    · rename_i v1 v2 h1 h2
      obtain ⟨h4, rfl⟩ := pairU_some e
      exact .unit (astore_ok hE h (ev h1) (ev h2) h4)
    · cases e
  case nilCheck x =>
    split at e
    · rename_i u hu
      obtain ⟨h1, rfl⟩ := pairH_some e
      have hv := ev hu
      generalize a.eval x = av at hv
      unfold anilCheck at h1
      split at h1
      · cases h1; cases hv with
        | ptr o hm => exact .now h (.ptr o hm)
      · cases h1; cases hv with
        | func _ h1 h2 h3 h4 => exact .now h (.func _ h1 h2 h3 h4)
      · cases h1; cases hv with
        | iface _ hv => exact .now h (.iface _ hv)
      · cases h1
    · cases e
  case binOp op t x y ty =>
    split at e
    · rename_i v1 v2 h1 h2
      obtain ⟨h4, rfl⟩ := pairH_some e
      exact (abin_ok hE hQ h (ev h1) (ev h2) h4).val
    · cases e
  case unOp op t x =>
    split at e
    · rename_i u hu
      obtain ⟨h1, rfl⟩ := pairH_some e
      exact (aun_ok h (ev hu) h1).val
    · cases e
  case convert s d x =>
    split at e
    · rename_i u hu
      exact (aconvP_ok hE h (ev hu) e).val
    · cases e
  case makeInterface t x =>
    split at e
    · rename_i u d hu hd
      have hgo : (∀ ms, d ≠ .interface ms) → v = .iface t u ∧ H' = H → Got P (do pure (.value (← Instr.makeInterface t (a.eval x)))) μ w0 w v H' := by
        rintro hn ⟨rfl, rfl⟩
        refine GotV.val (.pure h (v' := .iface t (a.eval x)) ?_ (.iface t (ev hu)))
        simp only [Instr.makeInterface, Sem.run_bind, run_und hE hd, Result.andThen_ok, Sem.run_pure]
      split at e
      · cases e
      · rename_i hn
        cases e
        exact hgo (fun ms hm => hn ms hm) ⟨rfl, rfl⟩
    · cases e
  case makeFunc fn xs ys =>
    cases fn with
    | func f =>
      simp only at e
      split at e
      · rename_i l m hl hm
        cases e
        have r1 := LR.map (aevals_ok ht _ l hl)
        have r2 := LR.map (aevals_ok ht _ m hm)
        exact GotV.val (.pure h (v' := .func (.func f) (xs.map a.eval) (ys.map a.eval)) rfl (.func f (AR.of_list r1).1 (AR.of_list r1).2 (AR.of_list r2).1 (AR.of_list r2).2))
      · cases e
    | _ => cases e
  case makeMap t r =>
    split at e
    · rename_i hr
      have := aopt_ok ht hr
      cases r with
      | none => exact (amakeMap_ok hE h (t := t) (.inl rfl) e).val
      | some x => exact this.elim
    · rename_i k n hr
      have hr2 := aopt_ok ht hr
      cases r with
      | none => exact hr2.elim
      | some x =>
        split at e
        · rename_i ka kb hu
          simp only [OR, Option.map_some] at hr2
          have hx : a.eval x = .int k n := by generalize a.eval x = av at hr2; cases hr2; rfl
          refine GotV.val (amakeMap_ok hE h (t := t) (.inr ⟨k, n, _, by simp [hx], hu, _, _, rfl⟩) e)
        · cases e
    · cases e
  case makeSlice t x y =>
    split at e
    · rename_i v1 v2 h1 h2
      exact (amakeSlice_ok hE h (ev h1) (ev h2) e).val
    · cases e
  case slice t x lo hi mx =>
    split at e
    · rename_i u l h' m hu hl hh hm
      obtain ⟨h1, rfl⟩ := pairH_some e
      cases hs : isScalar u with
      | true =>
        rw [hs, cond_true] at h1
        cases hb : (optSc l && optSc h' && optSc m) with
        | false => rw [hb] at h1; cases h1
        | true =>
          rw [hb, cond_true] at h1
          simp only [Bool.and_eq_true] at hb
          rw [(ev hu).scalar hs, OR.scalar (aopt_ok ht hl) hb.1.1, OR.scalar (aopt_ok ht hh) hb.1.2, OR.scalar (aopt_ok ht hm) hb.2]
          exact (asc_ok h h1).val
      | false =>
        rw [hs, cond_false] at h1
        exact (aslice_ok hE h (ev hu) (aopt_ok ht hl) (aopt_ok ht hh) (aopt_ok ht hm) h1).val
    · cases e
  case fieldAddr s x f =>
    split at e
    · rename_i u hu
      obtain ⟨h1, rfl⟩ := pairH_some e
      exact (afieldAddr_ok hE h (ev hu) h1).val
    · cases e
  case field s x f =>
    split at e
    · rename_i u hu
      obtain ⟨h1, rfl⟩ := pairH_some e
      exact (afield_ok hE h (ev hu) h1).val
    · cases e
  case indexAddr t x i =>
    split at e
    · rename_i v1 v2 h1 h2
      obtain ⟨h4, rfl⟩ := pairH_some e
      exact (aindexAddr_ok hE h (ev h1) (ev h2) h4).val
    · cases e
  case index t x i =>
    split at e
    · rename_i v1 v2 h1 h2
      obtain ⟨h4, rfl⟩ := pairH_some e
      exact (aindex_ok hE h (ev h1) (ev h2) h4).val
    · cases e
  case lookup t x i ok =>
    split at e
    · rename_i v1 v2 h1 h2
      obtain ⟨h4, rfl⟩ := pairH_some e
      exact (alookup_ok hE hQ h (ev h1) (ev h2) h4).val
    · cases e
  case mapUpdate t m k x =>
    split at e
    · rename_i v1 v2 v3 h1 h2 h3
      obtain ⟨h4, rfl⟩ := pairU_some e
      exact .unit (amapUpdate_ok hE hQ h (ev h1) (ev h2) (ev h3) h4)
    · cases e
  case mapEntry t m k =>
    split at e
    · rename_i v1 v2 h1 h2
      exact (amapEntry_ok hE hQ h (ev h1) (ev h2) e).val
    · cases e
  case entryStore t m s x =>
    split at e
    · rename_i v1 v2 v3 h1 h2 h3
      obtain ⟨h4, rfl⟩ := pairU_some e
      exact .unit (aentryStore_ok h (ev h1) (ev h2) (ev h3) h4)
    · cases e
  case range t x =>
    split at e
    · rename_i u hu
      exact (arangeS_ok hE h (ev hu) e).val
    · cases e
  case next x s =>
    cases s with
    | true =>
      simp only at e
      split at e
      · rename_i u hu
        exact (anextS_ok h (ev hu) e).val
      · cases e
    | false => cases e
  case typeAssert x xt as ok =>
    split at e
    · rename_i u hu
      obtain ⟨h1, rfl⟩ := pairH_some e
      exact (aassert_ok hE h (ev hu) h1).val
    · cases e
  case extract x i =>
    split at e
    · rename_i u hu
      obtain ⟨h1, rfl⟩ := pairH_some e
      exact (aextract_ok h (ev hu) h1).val
    · cases e
  all_goals cases e
end
end AM
end Go.Proofs.YtoicnghjjgkebaaGreatDoor
