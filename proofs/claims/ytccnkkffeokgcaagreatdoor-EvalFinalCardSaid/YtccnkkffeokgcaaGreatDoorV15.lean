/-
  The abstract machine's operations, eleventh part: maps are asked and written. No condition.
-/
import Derived.Test.YtccnkkffeokgcaaGreatDoorV14
namespace Go.Proofs.YtccnkkffeokgcaaGreatDoor
namespace AM
open Go.RowKit

section
variable {P : Program} {E : Env} {Q : Eqs} {μ : Mp} {H : AH} {w0 : Base} {w : World}
theorem Rel.mapR (h : Rel μ H w0 w) {k : Nat} {es : List (Value × Value × Nat)} {n : Nat} (hk : H.t.get k = some (.map es n)) {g s : Nat} (hm : μ k = some (g, s)) : ∃ F : Array MapEntry, w.heap[g]? = some (.map F n) ∧ MR μ es F.toList := by
  obtain ⟨F, h1, h2, h3⟩ := h.map hk hm
  exact ⟨F, h1, by simpa using h2, fun i e e' a b => h3 i e e' a (by simpa using b)⟩
def alookup (E : Env) (Q : Eqs) (H : AH) (t : Nat) (m key : Value) (ok : Bool) : Option Value := match E.und t with
  | some (.map kt el) => match E.info el, E.und kt with
    | some i, some _ => match i.zero with
      | some z => bif cval 6 z && acheck E 40 kt key then
          (match (match m with
            | .map none => some []
            | .map (some k) => match H.t.get k with
              | some (.map es _) => some es
              | _ => none
            | _ => none) with
          | some es => match afind E Q kt key es 0 with
            | some (some (_, v)) => some (bif ok then .tuple #[v, .bool true] else v)
            | some none => some (bif ok then .tuple #[z, .bool false] else z)
            | none => none
          | none => none) else none
      | none => none
    | _, _ => none
  | _ => none
theorem VR.pair {v v' : Value} (h : VR μ v v') (b : Bool) : VR μ (.tuple #[v, .bool b]) (.tuple #[v', .bool b]) := by
  have := (LR.cons h (LR.cons (VR.bool (μ := μ) b) (.nil μ))).toArray
  exact .tuple this.1 this.2
theorem alookup_ok (hE : E.Ok P) (hQ : Q.Ok P) (h : Rel μ H w0 w) {t : Nat} {m m' key key' v : Value} {ok : Bool} (hm : VR μ m m') (hk : VR μ key key') (e : alookup E Q H t m key ok = some v) : GotV P (Instr.lookup t m' key' ok) μ w0 w v H := by
  unfold alookup at e
  split at e
  · rename_i kt el hu
    split at e
    · rename_i i d hi hkt
      split at e
      · rename_i z hz
        cases hb : (cval 6 z && acheck E 40 kt key) with
        | false => rw [hb] at e; cases e
        | true =>
          rw [hb, cond_true] at e
          rw [Bool.and_eq_true] at hb
          have hck : ∀ em, (Instr.checkKey em 10000 kt key').run P w = .ok () w := fun em => acheck_ok hE 40 kt key key' 10000 em (by decide) hk hb.2
          have fin : ∀ (es : List (Value × Value × Nat)) (F : Array MapEntry), MR μ es F.toList →
              ((m' = .map none ∧ F = #[]) ∨ ∃ g n, m' = .map (some g) ∧ w.heap[g]? = some (.map F n)) →
              (match afind E Q kt key es 0 with
                | some (some (_, v)) => some (bif ok then .tuple #[v, .bool true] else v)
                | some none => some (bif ok then .tuple #[z, .bool false] else z)
                | none => none) = some v → GotV P (Instr.lookup t m' key' ok) μ w0 w v H := by
            intro es F hF hrun e
            split at e
            · rename_i j u hf
              obtain ⟨r', q1, q2⟩ := afind_ok hE hQ h hkt hk hF hf
              cases r' with
              | none => exact q2.elim
              | some r' =>
                obtain ⟨j', u'⟩ := r'
                obtain ⟨rfl, q3⟩ := q2
                cases e
                refine .pure h (v' := if ok then .tuple #[u', .bool true] else u') ?_ ?_
                · rcases hrun with ⟨rfl, rfl⟩ | ⟨g, n, rfl, hF2⟩
                  · simp only [Instr.lookup, Sem.run_bind, run_und hE hu, Result.andThen_ok, hck, q1, Sem.run_pure]
                  · simp only [Instr.lookup, Sem.run_bind, run_und hE hu, Result.andThen_ok, hck, q1, Sem.run_pure, run_getMap hF2]
                · cases ok
                  · exact q3
                  · exact q3.pair true
            · rename_i hf
              obtain ⟨r', q1, q2⟩ := afind_ok hE hQ h hkt hk hF hf
              cases r' with
              | some r' => exact q2.elim
              | none =>
                cases e
                have hzr := cval_ok μ 6 z hb.1
                refine .pure h (v' := if ok then .tuple #[z, .bool false] else z) ?_ ?_
                · rcases hrun with ⟨rfl, rfl⟩ | ⟨g, n, rfl, hF2⟩
                  · simp only [Instr.lookup, Sem.run_bind, run_und hE hu, Result.andThen_ok, hck, q1, Sem.run_pure, run_zero hE hi hz]
                  · simp only [Instr.lookup, Sem.run_bind, run_und hE hu, Result.andThen_ok, hck, q1, Sem.run_pure, run_zero hE hi hz, run_getMap hF2]
                · cases ok
                  · exact hzr
                  · exact hzr.pair false
            · cases e
          split at e
          · rename_i es hes
            split at hes
            · cases hes; cases hm
              exact fin [] #[] ⟨rfl, by simp⟩ (.inl ⟨rfl, rfl⟩) e
            · split at hes
              · rename_i es2 n hkk
                cases hes
                cases hm with
                | map hmm =>
                  obtain ⟨F, hF, hMR⟩ := h.mapR hkk hmm
                  exact fin _ F hMR (.inr ⟨_, _, rfl, hF⟩) e
              · cases hes
            · cases hes
          · cases e
      · cases e
    · cases e
  · cases e
theorem MR.set {es : List (Value × Value × Nat)} {fs : List MapEntry} (h : MR μ es fs) {e : Value × Value × Nat} {e' : MapEntry} (he : VR μ e.1 e'.key ∧ VR μ e.2.1 e'.val ∧ e'.born = e.2.2) (i : Nat) : MR μ (es.set i e) (fs.set i e') := by
  refine ⟨by simp [h.1], fun j a b h1 h2 => ?_⟩
  rw [List.getElem?_set] at h1 h2
  by_cases ej : i = j
  · subst ej
    simp only [if_true] at h1 h2
    split at h1
    · rw [if_pos (by rw [h.1]; assumption)] at h2
      cases h1; cases h2; exact he
    · cases h1
  · rw [if_neg ej] at h1 h2; exact h.2 j a b h1 h2
theorem MR.push {es : List (Value × Value × Nat)} {fs : List MapEntry} (h : MR μ es fs) {e : Value × Value × Nat} {e' : MapEntry} (he : VR μ e.1 e'.key ∧ VR μ e.2.1 e'.val ∧ e'.born = e.2.2) : MR μ (es ++ [e]) (fs ++ [e']) := by
  refine ⟨by simp [h.1], fun j a b h1 h2 => ?_⟩
  rw [List.getElem?_append] at h1 h2
  rw [h.1] at h2
  split at h1
  · rename_i hj
    rw [if_pos hj] at h2
    exact h.2 j a b h1 h2
  · rename_i hj
    rw [if_neg hj] at h2
    cases hd : j - es.length with
    | zero => rw [hd] at h1 h2; cases h1; cases h2; exact he
    | succ m => rw [hd] at h1; simp at h1
theorem MR.blk {es : List (Value × Value × Nat)} {F : Array MapEntry} {n s : Nat} (h : MR μ es F.toList) : BlkR μ s (.map es n) (.map F n) :=
  ⟨F, rfl, by have := h.1; simpa using this, fun i e e' a b => h.2 i e e' a (by simpa using b)⟩
theorem run_setMap (W : World) {g : Nat} {F : Array MapEntry} {n : Nat} (h : W.heap[g]? = some (.map F n)) (o : Obj) : (setObj g o).run P W = .ok () (World.over W g o) := by
  simp only [setObj, Sem.run, h]; rfl
/-- An entry is written. -/
def amapUpdate (E : Env) (Q : Eqs) (H : AH) (t : Nat) (m key v : Value) : Option AH := match E.und t, m with
  | some (.map kt _), .map (some k) => match E.und kt, H.t.get k with
    | some _, some (.map es n) => bif acheck E 40 kt key && cval 6 key then (match afind E Q kt key es 0 with
        | some (some (i, _)) => match es[i]? with
          | some e => bif cval 6 e.1 && Instr.sameBits 10000 e.1 key then some (H.put k (.map (es.set i (key, v, e.2.2)) n)) else none
          | none => none
        | some none => some (H.put k (.map (es ++ [(key, v, n)]) (n + 1)))
        | none => none) else none
    | _, _ => none
  | _, _ => none
theorem modify_set (F : Array MapEntry) (i : Nat) (f : MapEntry → MapEntry) {x : MapEntry} (h : F[i]? = some x) : (F.modify i f).toList = F.toList.set i (f x) := by
  apply List.ext_getElem?
  intro j
  rw [Array.getElem?_toList, Array.getElem?_modify, List.getElem?_set, Array.getElem?_toList]
  have hlt := (Array.getElem?_eq_some_iff.1 h).1
  by_cases e : i = j
  · subst e
    have hx : F[i] = x := by rw [Array.getElem?_eq_getElem hlt] at h; exact Option.some.inj h
    simp [hlt, hx]
  · simp [e]
theorem amapUpdate_ok (hE : E.Ok P) (hQ : Q.Ok P) (h : Rel μ H w0 w) {t : Nat} {m m' key key' v v' : Value} {H' : AH} (hm : VR μ m m') (hk : VR μ key key') (hv : VR μ v v') (e : amapUpdate E Q H t m key v = some H') :
    ∃ w', (Instr.mapUpdate t m' key' v').run P w = .ok () w' ∧ Rel μ H' w0 w' := by
  unfold amapUpdate at e
  split at e
  · rename_i kt el k hu
    split at e
    · rename_i d es n hkt hkk
      cases hb : (acheck E 40 kt key && cval 6 key) with
      | false => rw [hb] at e; cases e
      | true =>
        rw [hb, cond_true] at e
        rw [Bool.and_eq_true] at hb
        have hck : ∀ em, (Instr.checkKey em 10000 kt key').run P w = .ok () w := fun em => acheck_ok hE 40 kt key key' 10000 em (by decide) hk hb.1
        have hkeq := cval_eq 6 key key' hb.2 hk
        subst hkeq
        cases hm with
        | @map _ g s hmm =>
          obtain ⟨F, hF, hMR⟩ := h.mapR hkk hmm
          split at e
          · rename_i i u hf
            split at e
            · rename_i en hen
              cases hb2 : (cval 6 en.1 && Instr.sameBits 10000 en.1 key') with
              | false => rw [hb2] at e; cases e
              | true =>
                rw [hb2, cond_true] at e
                cases e
                rw [Bool.and_eq_true] at hb2
                obtain ⟨r', q1, q2⟩ := afind_ok hE hQ h hkt hk hMR hf
                cases r' with
                | none => exact q2.elim
                | some r' =>
                  obtain ⟨j', u'⟩ := r'
                  obtain ⟨rfl, q3⟩ := q2
                  have hil : i < F.toList.length := by rw [hMR.1]; exact (List.getElem?_eq_some_iff.1 hen).1
                  have hFi : F[i]? = some F.toList[i] := by simp at hil; simp [hil]
                  have hent := hMR.2 i en _ hen (List.getElem?_eq_getElem hil)
                  have hke := cval_eq 6 en.1 _ hb2.1 hent.1
                  refine ⟨World.over w g (.map (F.modify i fun e => { e with key := key', val := v' }) n), ?_, ?_⟩
                  · simp only [Instr.mapUpdate, Sem.run_bind, run_und hE hu, Result.andThen_ok, run_getMap hF, hck, q1, Instr.keyThatStays, hFi, Option.map_some, Option.getD_some, hke, hb2.2, if_true, Sem.run_pure]
                    exact run_setMap w hF _
                  · refine h.over hkk rfl rfl hmm (MR.blk ?_)
                    rw [modify_set F i _ hFi]
                    exact hMR.set (e := (key', v, en.2.2)) (e' := { F.toList[i] with key := key', val := v' }) ⟨hk, hv, hent.2.2⟩ i
            · cases e
          · rename_i hf
            cases e
            obtain ⟨r', q1, q2⟩ := afind_ok hE hQ h hkt hk hMR hf
            cases r' with
            | some r' => exact q2.elim
            | none =>
              refine ⟨World.over w g (.map (F.push { key := key', val := v', born := n }) (n + 1)), ?_, ?_⟩
              · simp only [Instr.mapUpdate, Sem.run_bind, run_und hE hu, Result.andThen_ok, run_getMap hF, hck, q1]
                exact run_setMap w hF _
              · refine h.over hkk rfl rfl hmm (MR.blk ?_)
                rw [Array.toList_push]
                exact hMR.push ⟨hk, hv, rfl⟩
          · cases e
    · cases e
  · cases e
/-- An entry is found, or made, and its value told. -/
def amapEntry (E : Env) (Q : Eqs) (H : AH) (t : Nat) (m key : Value) : Option (Value × AH) := match E.und t, m with
  | some (.map kt el), .map (some k) => match E.und kt, H.t.get k, E.info el with
    | some _, some (.map es n), some i => match i.zero with
      | some z => bif acheck E 40 kt key && cval 6 key && cval 6 z then (match afind E Q kt key es 0 with
        | some (some (i, v)) => match es[i]? with
          | some e => bif cval 6 e.1 && Instr.sameBits 10000 e.1 key then some (.tuple #[v, .int .i64 e.2.2], H.put k (.map (es.set i (key, e.2.1, e.2.2)) n)) else none
          | none => none
        | some none => some (.tuple #[z, .int .i64 n], H.put k (.map (es ++ [(key, z, n)]) (n + 1)))
        | none => none) else none
      | none => none
    | _, _, _ => none
  | _, _ => none
theorem VR.pairI {v v' : Value} (h : VR μ v v') (n : Int) : VR μ (.tuple #[v, .int .i64 n]) (.tuple #[v', .int .i64 n]) := by
  have := (LR.cons h (LR.cons (VR.int (μ := μ) .i64 n) (.nil μ))).toArray
  exact .tuple this.1 this.2
theorem amapEntry_ok (hE : E.Ok P) (hQ : Q.Ok P) (h : Rel μ H w0 w) {t : Nat} {m m' key key' r : Value} {H' : AH} (hm : VR μ m m') (hk : VR μ key key') (e : amapEntry E Q H t m key = some (r, H')) : GotV P (Instr.mapEntry t m' key') μ w0 w r H' := by
  unfold amapEntry at e
  split at e
  · rename_i kt el k hu
    split at e
    · rename_i d es n inf hkt hkk hinf
      split at e
      · rename_i z hz
        cases hb : (acheck E 40 kt key && cval 6 key && cval 6 z) with
        | false => rw [hb] at e; cases e
        | true =>
          rw [hb, cond_true] at e
          simp only [Bool.and_eq_true] at hb
          have hck : ∀ em, (Instr.checkKey em 10000 kt key').run P w = .ok () w := fun em => acheck_ok hE 40 kt key key' 10000 em (by decide) hk hb.1.1
          have hkeq := cval_eq 6 key key' hb.1.2 hk
          subst hkeq
          have hzr := cval_ok μ 6 z hb.2
          cases hm with
          | @map _ g s hmm =>
            obtain ⟨F, hF, hMR⟩ := h.mapR hkk hmm
            split at e
            · rename_i i u hf
              split at e
              · rename_i en hen
                cases hb2 : (cval 6 en.1 && Instr.sameBits 10000 en.1 key') with
                | false => rw [hb2] at e; cases e
                | true =>
                  rw [hb2, cond_true] at e
                  simp only [Option.some.injEq, Prod.mk.injEq] at e
                  obtain ⟨rfl, rfl⟩ := e
                  rw [Bool.and_eq_true] at hb2
                  obtain ⟨r', q1, q2⟩ := afind_ok hE hQ h hkt hk hMR hf
                  cases r' with
                  | none => exact q2.elim
                  | some r' =>
                    obtain ⟨j', u'⟩ := r'
                    obtain ⟨rfl, q3⟩ := q2
                    have hil : i < F.toList.length := by rw [hMR.1]; exact (List.getElem?_eq_some_iff.1 hen).1
                    have hFi : F[i]? = some F.toList[i] := by simp at hil; simp [hil]
                    have hent := hMR.2 i en _ hen (List.getElem?_eq_getElem hil)
                    have hke := cval_eq 6 en.1 _ hb2.1 hent.1
                    refine ⟨μ, .tuple #[u', .int .i64 en.2.2], World.over w g (.map (F.modify i fun e => { e with key := key' }) n), ?_, .refl μ, ?_, q3.pairI _⟩
                    · simp only [Instr.mapEntry, Sem.run_bind, run_und hE hu, Result.andThen_ok, run_getMap hF, hck, q1, Instr.keyThatStays, hFi, Option.map_some, Option.getD_some, hke, hb2.2, if_true, Sem.run_pure, run_setMap w hF, hent.2.2, goInt]
                    · refine h.over hkk rfl rfl hmm (MR.blk ?_)
                      rw [modify_set F i _ hFi]
                      exact hMR.set (e := (key', en.2.1, en.2.2)) (e' := { F.toList[i] with key := key' }) ⟨hk, hent.2.1, hent.2.2⟩ i
              · cases e
            · rename_i hf
              simp only [Option.some.injEq, Prod.mk.injEq] at e
              obtain ⟨rfl, rfl⟩ := e
              obtain ⟨r', q1, q2⟩ := afind_ok hE hQ h hkt hk hMR hf
              cases r' with
              | some r' => exact q2.elim
              | none =>
                refine ⟨μ, .tuple #[z, .int .i64 n], World.over w g (.map (F.push { key := key', val := z, born := n }) (n + 1)), ?_, .refl μ, ?_, hzr.pairI _⟩
                · simp only [Instr.mapEntry, Sem.run_bind, run_und hE hu, Result.andThen_ok, run_getMap hF, hck, q1, run_zero hE hinf hz, run_setMap w hF, Sem.run_pure, goInt]
                · refine h.over hkk rfl rfl hmm (MR.blk ?_)
                  rw [Array.toList_push]
                  exact hMR.push ⟨hk, hzr, rfl⟩
            · cases e
      · cases e
    · cases e
  · cases e
end
end AM
end Go.Proofs.YtccnkkffeokgcaaGreatDoor
