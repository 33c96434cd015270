/-
  The abstract machine's operations, tenth part: maps. No condition.
-/
import Derived.Test.YtccnkkffeokgcaaGreatDoorV13
namespace Go.Proofs.YtccnkkffeokgcaaGreatDoor
namespace AM
open Go.RowKit

theorem cval_eq {μ : Mp} : ∀ (n : Nat) (v v' : Value), cval n v = true → VR μ v v' → v' = v
  | 0, v, v', h, _ => by simp [cval] at h
  | n + 1, v, v', h, hv => by
    have row : ∀ {cs cs' : Array Value}, cs.toList.all (cval n) = true → cs.size = cs'.size → (∀ (i : Nat) (v v' : Value), cs[i]? = some v → cs'[i]? = some v' → VR μ v v') → cs' = cs := by
      intro cs cs' h1 h2 h3
      apply Array.ext (by omega)
      intro i hi1 hi2
      have hm : cs[i] ∈ cs.toList := Array.getElem_mem_toList hi2
      exact cval_eq n _ _ (List.all_eq_true.1 h1 _ hm) (h3 i _ _ (Array.getElem?_eq_getElem hi2) (Array.getElem?_eq_getElem hi1))
    cases hv with
    | bool b => rfl
    | int k m => rfl
    | string s => rfl
    | pnil => rfl
    | ptr o e => simp [cval] at h
    | snil m c => rfl
    | sl o m c e e2 => simp [cval] at h
    | slx o m c c' e a1 a2 a3 a4 a5 a6 => simp [cval] at h
    | mnil => rfl
    | map e => simp [cval] at h
    | nilFunc => rfl
    | nilIface => rfl
    | iface t hv => rw [cval_eq n _ _ (by simpa only [cval] using h) hv]
    | func f h1 h2 h3 h4 =>
      simp only [cval, Bool.and_eq_true, List.isEmpty_iff, Array.toList_eq_nil_iff] at h
      obtain ⟨rfl, rfl⟩ := h
      have e1 := Array.eq_empty_of_size_eq_zero h1.symm
      have e2 := Array.eq_empty_of_size_eq_zero h3.symm
      rw [e1, e2]
    | yield e => simp [cval] at h
    | agg h1 h2 => rw [row (by simpa only [cval] using h) h1 h2]
    | tuple h1 h2 => rw [row (by simpa only [cval] using h) h1 h2]
    | unkI k n => simp [cval] at h
    | unkS s => simp [cval] at h
    | unkN n => simp [cval] at h
    | unkB b => simp [cval] at h
section
variable {P : Program} {E : Env} {Q : Eqs} {μ : Mp} {H : AH} {w0 : Base} {w : World}
/-- May a value be a key? -/
def acheckFields (E : Env) (chk : Nat → Value → Bool) (cs : List Value) : List Field → Bool
  | [] => true
  | f :: fs => bif f.name == "_" then acheckFields E chk cs fs else match apart E f.type cs f.offset with
    | some v => chk f.type v && acheckFields E chk cs fs
    | none => false
def acheckElems (E : Env) (chk : Nat → Value → Bool) (el sz : Nat) (cs : List Value) : List Nat → Bool
  | [] => true
  | i :: l => match apart E el cs (i * sz) with
    | some v => chk el v && acheckElems E chk el sz cs l
    | none => false
def acheck (E : Env) : Nat → Nat → Value → Bool
  | 0, _, _ => false
  | d + 1, t, v => match E.und t, v with
    | some (.int _), _ | some .string, _ | some .bool, _ => true
    | some (.struct fs), .agg cs => acheckFields E (acheck E d) cs.toList fs.toList
    | some (.array n el), .agg cs => match E.info el with
      | some i => acheckElems E (acheck E d) el i.size cs.toList (List.range' 0 n)
      | none => false
    | _, _ => false
theorem acheck_ok (hE : E.Ok P) : ∀ (d t : Nat) (v v' : Value) (D : Nat) (em : Bool), d ≤ D → VR μ v v' → acheck E d t v = true → (Instr.checkKey em D t v').run P w = .ok () w
  | 0, _, _, _, _, _, _, _, e => by simp [acheck] at e
  | d + 1, _, _, _, 0, _, hD, _, _ => by omega
  | d + 1, t, v, v', D + 1, em, hD, hv, e => by
    simp only [acheck] at e
    split at e
    · rename_i hu
      simp only [Instr.checkKey, Sem.run_bind, run_und hE hu, Result.andThen_ok, Sem.run_pure]
    · rename_i hu
      simp only [Instr.checkKey, Sem.run_bind, run_und hE hu, Result.andThen_ok, Sem.run_pure]
    · rename_i hu
      simp only [Instr.checkKey, Sem.run_bind, run_und hE hu, Result.andThen_ok, Sem.run_pure]
    · rename_i fs cs hu
      cases hv with
      | agg h1 h2 =>
        simp only [Instr.checkKey, Sem.run_bind, run_und hE hu, Result.andThen_ok]
        rw [← Array.forIn_toList]
        have hc := fun t v v' hv hc => acheck_ok hE d t v v' D em (by omega) hv hc
        have hr : AR μ cs _ := ⟨h1, h2⟩
        clear hu
        revert e
        generalize fs.toList = l
        intro e
        induction l with
        | nil => rfl
        | cons f fs ih =>
          simp only [acheckFields] at e
          cases hn : (f.name == "_") with
          | true =>
            rw [hn, cond_true] at e
            have hn' : f.name = "_" := by simpa using hn
            simp only [List.forIn_cons, hn', ne_eq, not_true_eq_false, if_false, Sem.run_bind, Sem.run_pure, Result.andThen_ok]
            exact ih e
          | false =>
            rw [hn, cond_false] at e
            have hn' : f.name ≠ "_" := by simpa using hn
            split at e
            · rename_i v hv
              rw [Bool.and_eq_true] at e
              obtain ⟨v', r1, r2⟩ := apart_ok hE hr hv w
              simp only [List.forIn_cons, if_pos hn', Sem.run_bind, Sem.run_pure, r1, Result.andThen_ok, hc _ _ _ r2 e.1]
              exact ih e.2
            · cases e
    · rename_i n el cs hu
      cases hv with
      | agg h1 h2 =>
        split at e
        · rename_i inf hinf
          simp only [Instr.checkKey, Sem.run_bind, run_und hE hu, Result.andThen_ok]
          have hc := fun t v v' hv hc => acheck_ok hE d t v v' D em (by omega) hv hc
          have hr : AR μ cs _ := ⟨h1, h2⟩
          simp only [Std.Legacy.Range.forIn_eq_forIn_range', Std.Legacy.Range.size, Nat.sub_zero, Nat.add_one_sub_one, Nat.div_one]
          clear hu
          revert e
          generalize List.range' 0 n = l
          intro e
          induction l with
          | nil => rfl
          | cons i l ih =>
            simp only [acheckElems] at e
            split at e
            · rename_i v hv
              rw [Bool.and_eq_true] at e
              obtain ⟨v', r1, r2⟩ := apart_ok hE hr hv w
              simp only [List.forIn_cons, Sem.run_bind, Sem.run_pure, run_size hE hinf, r1, Result.andThen_ok, hc _ _ _ r2 e.1]
              exact ih e.2
            · cases e
        · cases e
    · cases e
/-- The entry of a key. -/
def afind (E : Env) (Q : Eqs) (kt : Nat) (key : Value) : List (Value × Value × Nat) → Nat → Option (Option (Nat × Value))
  | [], _ => some none
  | e :: es, i => match aeq E Q 40 kt key e.1 with
    | some true => some (some (i, e.2.1))
    | some false => afind E Q kt key es (i + 1)
    | none => none
def MR (μ : Mp) (es : List (Value × Value × Nat)) (fs : List MapEntry) : Prop := fs.length = es.length ∧ ∀ (i : Nat) (e : Value × Value × Nat) (e' : MapEntry), es[i]? = some e → fs[i]? = some e' → VR μ e.1 e'.key ∧ VR μ e.2.1 e'.val ∧ e'.born = e.2.2
theorem MR.inv {es : List (Value × Value × Nat)} {e : Value × Value × Nat} {fs : List MapEntry} (h : MR μ (e :: es) fs) : ∃ f gs, fs = f :: gs ∧ (VR μ e.1 f.key ∧ VR μ e.2.1 f.val ∧ f.born = e.2.2) ∧ MR μ es gs := by
  cases fs with
  | nil => have := h.1; simp at this
  | cons f gs => exact ⟨f, gs, rfl, h.2 0 e f rfl rfl, by have := h.1; simpa using this, fun i a b h1 h2 => h.2 (i + 1) a b (by simpa using h1) (by simpa using h2)⟩
def FR (μ : Mp) : Option (Nat × Value) → Option (Nat × Value) → Prop
  | none, none => True
  | some (i, v), some (j, u) => i = j ∧ VR μ v u
  | _, _ => False
theorem afind_asking (hE : E.Ok P) (hQ : Q.Ok P) (h : Rel μ H w0 w) {kt : Nat} {key key' : Value} (hk : VR μ key key') : ∀ (es : List (Value × Value × Nat)) (fs : List MapEntry) (i : Nat) (r : Option (Nat × Value)), MR μ es fs → afind E Q kt key es i = some r →
      ∃ r', (Instr.findAsking kt key' fs i).run P w = .ok r' w ∧ FR μ r r'
  | [], fs, i, r, hm, e => by
    cases e
    have : fs = [] := by have := hm.1; simpa using this
    subst this
    exact ⟨none, rfl, trivial⟩
  | a :: es, fs, i, r, hm, e => by
    obtain ⟨f, gs, rfl, ⟨h1, h2, h3⟩, h4⟩ := hm.inv
    simp only [afind] at e
    split at e
    · rename_i he
      cases e
      have := aeq_ok hE hQ h 40 kt key key' a.1 f.key true 10000 (by decide) hk h1 he
      refine ⟨some (i, f.val), ?_, rfl, h2⟩
      simp only [Instr.findAsking, Sem.run_bind, Op.equal, Op.maxDepth, this, Result.andThen_ok, if_true, Sem.run_pure]
    · rename_i he
      have := aeq_ok hE hQ h 40 kt key key' a.1 f.key false 10000 (by decide) hk h1 he
      obtain ⟨r', q1, q2⟩ := afind_asking hE hQ h hk es gs (i + 1) r h4 e
      refine ⟨r', ?_, q2⟩
      simp only [Instr.findAsking, Sem.run_bind, Op.equal, Op.maxDepth, this, Result.andThen_ok, Bool.false_eq_true, if_false, q1]
    · cases e
/-- What is told at once is what is told by asking. -/
theorem sameNow_eq (hE : E.Ok P) (hQ : Q.Ok P) (h : Rel μ H w0 w) {kt : Nat} {d : TypeDesc} (hu : E.und kt = some d) {x x' y y' : Value} (hx : VR μ x x') (hy : VR μ y y') {b : Bool} (e : aeq E Q 40 kt x y = some b) {c : Bool} (hs : Instr.sameNow d x' y' = some c) : c = b := by
  unfold Instr.sameNow at hs
  split at hs
  · cases hx <;> cases hy <;> first
      | (simp only [aeq, hu, reduceCtorEq] at e; done)
      | (simp only [aeq, hu] at e
         split at hs
         · rename_i hk
           rw [if_pos hk] at e
           cases hs; cases e; rfl
         · cases hs)
  · cases hx <;> cases hy <;> first
      | (simp only [aeq, hu, reduceCtorEq] at e; done)
      | (simp only [aeq, hu] at e
         cases hs; cases e
         exact beqBytes_eq _ _)
  · cases hx <;> cases hy <;> first
      | (simp only [aeq, hu, reduceCtorEq] at e; done)
      | (simp only [aeq, hu] at e
         cases hs; cases e; rfl)
  · cases hs
theorem afind_now (hE : E.Ok P) (hQ : Q.Ok P) (h : Rel μ H w0 w) {kt : Nat} {d : TypeDesc} (hu : E.und kt = some d) {key key' : Value} (hk : VR μ key key') : ∀ (es : List (Value × Value × Nat)) (fs : List MapEntry) (i : Nat) (r r' : Option (Nat × Value)), MR μ es fs → afind E Q kt key es i = some r → Instr.findNow d key' fs i = some r' → FR μ r r'
  | [], fs, i, r, r', hm, e, e' => by
    cases e
    have : fs = [] := by have := hm.1; simpa using this
    subst this
    simp only [Instr.findNow, Option.some.injEq] at e'
    subst e'
    trivial
  | a :: es, fs, i, r, r', hm, e, e' => by
    obtain ⟨f, gs, rfl, ⟨h1, h2, h3⟩, h4⟩ := hm.inv
    simp only [afind] at e
    simp only [Instr.findNow] at e'
    split at e
    · rename_i he
      cases e
      split at e'
      · cases e'; exact ⟨rfl, h2⟩
      · rename_i hs
        have := sameNow_eq hE hQ h hu hk h1 he hs
        cases this
      · cases e'
    · rename_i he
      split at e'
      · rename_i hs
        have := sameNow_eq hE hQ h hu hk h1 he hs
        cases this
      · exact afind_now hE hQ h hu hk es gs (i + 1) r r' h4 e e'
      · cases e'
    · cases e
theorem afind_ok (hE : E.Ok P) (hQ : Q.Ok P) (h : Rel μ H w0 w) {kt : Nat} {d : TypeDesc} (hu : E.und kt = some d) {key key' : Value} (hk : VR μ key key') {es : List (Value × Value × Nat)} {fs : List MapEntry} {r : Option (Nat × Value)} (hm : MR μ es fs) (e : afind E Q kt key es 0 = some r) :
    ∃ r', (Instr.findKey kt key' fs).run P w = .ok r' w ∧ FR μ r r' := by
  simp only [Instr.findKey, Sem.run_bind, run_und hE hu, Result.andThen_ok]
  cases hn : Instr.findNow d key' fs 0 with
  | none => exact afind_asking hE hQ h hk es fs 0 r hm e
  | some r' => exact ⟨r', rfl, afind_now hE hQ h hu hk es fs 0 r r' hm e hn⟩
end
end AM
end Go.Proofs.YtccnkkffeokgcaaGreatDoor
