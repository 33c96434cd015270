/-
  The abstract machine: calls; the operations of a statement, one behind the other. No condition.
-/
import Derived.Test.YtoicnghjjgkebaaGreatDoorVM
import Derived.RangeFuncLeaves
import Derived.OrdersIn
set_option linter.unusedSectionVars false
set_option linter.unusedSimpArgs false
set_option linter.unusedVariables false
set_option linter.unnecessarySimpa false
namespace Go.Proofs.YtoicnghjjgkebaaGreatDoor
namespace AM
open Go.RowKit
variable [Toks]

section
variable {P : Program} {E : Env} {Q : Eqs} {μ : Mp} {H : AH} {w0 : Base} {w : World} {T : Nat → Option Value} {a : Act} {n : Nat}
/-- Who is called, with what. -/
def acallee (E : Env) (T : Nat → Option Value) (c : Call) : Option (FuncId × List Value) := match aevals T c.args.toList with
  | none => none
  | some l => match c.callee with
    | .value f => match aeval T f with
      | some (.func (.func g) x y) => match E.fn g with
        | some fn => bif fn.body.isSome then some (g, (x.toList ++ l) ++ y.toList) else none
        | none => none
      | _ => none
    | .invoke r name => match aeval T r with
      | some (.iface t v) => match E.info t, E.und t with
        | some i, some d => match i.methods.toList.find? (·.name == name) with
          | some m => bif m.path.toList.isEmpty then (match m.func with
            | some (g, pr) => bif (match d with | .pointer _ => pr | _ => !pr) then (match E.fn g with
                | some fn => bif fn.body.isSome then some (g, v :: l) else none
                | none => none) else none
            | none => none) else none
          | none => none
        | _, _ => none
      | _ => none
    | .builtin _ => none
theorem run_callFunc (hE : E.Ok P) {g : Nat} {fn : Func} (hf : E.fn g = some fn) (hb : fn.body.isSome = true) (args : Array Value) (w : World) : (callFunc g args).run P w = .ok (.enter g args) w := by
  obtain ⟨h1, h2⟩ := hE.fn _ _ hf
  have hb' : fn.body.isNone = false := by cases hq : fn.body <;> simp_all
  simp only [callFunc, Sem.run_bind, program, Sem.run, Result.andThen_ok, h1, h2, Bool.false_eq_true, if_false, hb', Sem.run_pure]
theorem acallee_ok (hE : E.Ok P) (ht : TR μ T a.tmps) {o : Oper} {c : Call} (ho : o.op = .call c) {g : FuncId} {l : List Value} (e : acallee E T c = some (g, l)) :
    ∃ args : Array Value, (execOp a.eval o).run P w = .ok (.enter g args) w ∧ LR μ l args.toList ∧ ∃ fn, E.fn g = some fn ∧ fn.body.isSome = true := by
  unfold acallee at e
  split at e
  · cases e
  · rename_i l0 hl0
    have hargs := LR.map (aevals_ok ht _ l0 hl0)
    split at e
    · rename_i f hc
      split at e
      · rename_i g' x y hf
        split at e
        · rename_i fn hfn
          cases hb : fn.body.isSome with
          | false => rw [hb] at e; cases e
          | true =>
            rw [hb, cond_true] at e
            cases e
            have hv := aeval_ok ht hf
            generalize hav : a.eval f = av at hv
            cases hv with
            | @func _ _ x' _ y' h1 h2 h3 h4 =>
              refine ⟨(x' ++ c.args.map a.eval) ++ y', ?_, ?_, fn, hfn, hb⟩
              · unfold execOp
                rw [ho]
                simp only [resolve, hc, hav, Deferred.ofValue, Sem.run_bind, Sem.run_pure, Result.andThen_ok, invoke, run_callFunc hE hfn hb]
              · rw [Array.toList_append, Array.toList_append]
                exact ((AR.toList ⟨h1, h2⟩).append hargs).append (AR.toList ⟨h3, h4⟩)
        · cases e
      · cases e
    · rename_i r name hc
      split at e
      · rename_i t v hr
        split at e
        · rename_i i d hi hu
          split at e
          · rename_i m hm
            cases hp : m.path.toList.isEmpty with
            | false => rw [hp] at e; cases e
            | true =>
              rw [hp, cond_true] at e
              split at e
              · rename_i g' pr hmf
                cases hk : (match d with | .pointer _ => pr | _ => !pr) with
                | false => rw [hk] at e; cases e
                | true =>
                  rw [hk, cond_true] at e
                  split at e
                  · rename_i fn hfn
                    cases hb : fn.body.isSome with
                    | false => rw [hb] at e; cases e
                    | true =>
                      rw [hb, cond_true] at e
                      cases e
                      have hv := aeval_ok ht hr
                      generalize hav : a.eval r = av at hv
                      cases hv with
                      | @iface _ _ v' hvv =>
                        refine ⟨#[v'] ++ c.args.map a.eval, ?_, ?_, fn, hfn, hb⟩
                        · unfold execOp
                          rw [ho]
                          have hm' : i.methods.find? (·.name == name) = some m := by rw [← Array.find?_toList]; exact hm
                          have hpe : m.path.toList = [] := List.isEmpty_iff.1 hp
                          obtain ⟨D, hD⟩ : ∃ D, P.types.size + Made.depth = D + 1 := by
                            have : 0 < Made.depth := by decide
                            exact ⟨P.types.size + Made.depth - 1, by omega⟩
                          have hrecv : (receiverAt t (.val v') pr (if m.path.isEmpty then some ((name.splitOn ".").getLastD name) else none)).run P w = .ok v' w := by
                            unfold receiverAt
                            simp only [Sem.run_bind, run_und hE hu, Result.andThen_ok]
                            cases pr <;> cases d <;> first | rfl | exact Bool.noConfusion (show false = true from hk)
                          have hmeth : (method (D + 1) t v' name).run P w = .ok (g, v') w := by
                            unfold method
                            simp only [Sem.run_bind, run_info hE hi, Result.andThen_ok, hm', hpe, follow, Sem.run_pure, hmf]
                            rw [hrecv]
                            rfl
                          simp only [resolve, hc, hav, Sem.run_bind, Sem.run_pure, Result.andThen_ok, invoke]
                          have h0 : ((#[Value.iface t v'] ++ c.args.map a.eval : Array Value))[0]? = some (.iface t v') := by rw [Array.getElem?_append_left (by simp)]; rfl
                          have h1 : (#[Value.iface t v'] ++ c.args.map a.eval : Array Value).extract 1 (#[Value.iface t v'] ++ c.args.map a.eval : Array Value).size = c.args.map a.eval := by
                            apply Array.ext'
                            simp
                            exact List.take_of_length_le (by simp)
                          simp only [h0, h1, callMethod, program, Sem.run_bind, Sem.run, Result.andThen_ok, hD, hmeth, run_callFunc hE hfn hb]
                        · rw [Array.toList_append]
                          exact .cons hvv hargs
                  · cases e
              · cases e
          · cases e
        · cases e
      · cases e
    · cases e
/-- From a map that there isn't nothing is taken. -/
def adelete (E : Env) (t : Nat) (m key : Value) : Option Value := match E.und t, m with
  | some (.map kt _), .map none => bif acheck E 40 kt key then some (.tuple #[]) else none
  | _, _ => none
theorem adelete_ok (hE : E.Ok P) (h : Rel μ H w0 w) {t ty : Nat} {ts : Array TypeId} (ht : ts[0]? = some t) {m m' key key' r : Value} (hm : VR μ m m') (hk : VR μ key key') (e : adelete E t m key = some r) : GotV P (Builtin.delete_ ts ty #[m', key']) μ w0 w r H := by
  unfold adelete at e
  split at e
  · rename_i kt el hu
    cases hc : acheck E 40 kt key with
    | false => rw [hc] at e; cases e
    | true =>
      rw [hc, cond_true] at e
      cases e; cases hm
      have hck : (Instr.checkKey true 10000 kt key').run P w = .ok () w := acheck_ok hE 40 kt key key' 10000 true (by decide) hk hc
      refine .pure h (v' := .tuple #[]) ?_ (.tuple rfl (fun i v v' a b => by simp at a))
      simp [Builtin.delete_, ht, run_und hE hu, hck]
  · cases e
/-- Builtins. -/
def abuiltin (P : Program) (E : Env) (H : AH) (b : Builtin) (ts : Array TypeId) (ty : TypeId) (l : List Value) : Option (Value × AH) := match b, ts.toList, l with
  | .append, [t, tx], [s, x] => aappend E H t tx s x
  | .copy, [t, ts], [d, s] => acopy E H t d s
  | .len, t :: _, v :: _ => pairH H (alen E H t v)
  | .max, _, l => pairH H (aminmax P (Builtin.max_ ts ty) l)
  | .min, _, l => pairH H (aminmax P (Builtin.min_ ts ty) l)
  | .delete, t :: _, [m, key] => pairH H (adelete E t m key)
  | .unsafeSliceData, _, [s] => pairH H (asliceData s)
  | .unsafeString, [pt, _], [x, y] => aunsafeStr E H pt x y
  | _, _, _ => none
theorem abuiltin_ok (hE : E.Ok P) (h : Rel μ H w0 w) (ht : TR μ T a.tmps) {o : Oper} {c : Call} (ho : o.op = .call c) {b : Builtin} (hc : c.callee = .builtin b) {l : List Value} (hl : aevals T c.args.toList = some l) {v : Value} {H' : AH} (e : abuiltin P E H b c.argTypes o.type l = some (v, H')) :
    Got P (execOp a.eval o) μ w0 w v H' := by
  have hargs := LR.map (aevals_ok ht _ l hl)
  have key : ∀ s : Sem Value, (∀ cs, builtin b c.argTypes o.type cs (c.args.map a.eval) = (do pure (.value (← s)))) → GotV P s μ w0 w v H' → Got P (execOp a.eval o) μ w0 w v H' := by
    intro s hs hg
    obtain ⟨ν, k, v', w', r1, r2⟩ := hg.val
    refine ⟨ν, k, v', w', ?_, r2⟩
    unfold execOp
    rw [ho]
    simp only [resolve, hc, Sem.run_bind, Sem.run_pure, Result.andThen_ok, invoke, hs, ← r1]
  unfold abuiltin at e
  split at e
  · rename_i t tx s x hts
    obtain ⟨s', l', he, hs, hr⟩ := hargs.inv
    obtain ⟨x', l'', he2, hx, hr2⟩ := hr.inv
    have hn := hr2.inv_nil
    subst hn
    subst he2
    have e1 : c.args.map a.eval = #[s', x'] := by apply Array.ext'; exact he
    have e2 : c.argTypes = #[t, tx] := by apply Array.ext'; exact hts
    refine key (Builtin.append_ c.argTypes o.type (c.args.map a.eval)) (fun _ => rfl) ?_
    rw [e1, e2]
    exact aappend_ok hE h hs hx e
  · rename_i t tx s x hts
    obtain ⟨s', l', he, hs, hr⟩ := hargs.inv
    obtain ⟨x', l'', he2, hx, hr2⟩ := hr.inv
    have hn := hr2.inv_nil
    subst hn
    subst he2
    have e1 : c.args.map a.eval = #[s', x'] := by apply Array.ext'; exact he
    have e2 : c.argTypes = #[t, tx] := by apply Array.ext'; exact hts
    refine key (Builtin.copy_ c.argTypes o.type (c.args.map a.eval)) (fun _ => rfl) ?_
    rw [e1, e2]
    exact acopy_ok hE h hs hx e
  · rename_i t ts v0 l0 hts
    obtain ⟨h1, rfl⟩ := pairH_some e
    obtain ⟨v', l', he, hv, hr⟩ := hargs.inv
    refine key (Builtin.len_ c.argTypes o.type (c.args.map a.eval)) (fun _ => rfl) ?_
    refine alen_ok hE h (t := t) ?_ (v' := v') ?_ hv h1
    · rw [← Array.getElem?_toList, hts]; rfl
    · rw [← Array.getElem?_toList, he]; rfl
  · obtain ⟨h1, rfl⟩ := pairH_some e
    exact key (Builtin.max_ c.argTypes o.type (c.args.map a.eval)) (fun _ => rfl) (aminmax_ok h (f := Builtin.max_ c.argTypes o.type) hargs h1)
  · obtain ⟨h1, rfl⟩ := pairH_some e
    exact key (Builtin.min_ c.argTypes o.type (c.args.map a.eval)) (fun _ => rfl) (aminmax_ok h (f := Builtin.min_ c.argTypes o.type) hargs h1)
  · rename_i t ts m0 key0 hts
    obtain ⟨h1, rfl⟩ := pairH_some e
    obtain ⟨m', l', he, hm, hr⟩ := hargs.inv
    obtain ⟨k', l'', he2, hk, hr2⟩ := hr.inv
    have hn := hr2.inv_nil
    subst hn
    subst he2
    have e1 : c.args.map a.eval = #[m', k'] := by apply Array.ext'; exact he
    refine key (Builtin.delete_ c.argTypes o.type (c.args.map a.eval)) (fun _ => rfl) ?_
    rw [e1]
    exact adelete_ok hE h (by rw [← Array.getElem?_toList, hts]; rfl) hm hk h1
  · obtain ⟨h1, rfl⟩ := pairH_some e
    obtain ⟨s', l', he, hs, hr⟩ := hargs.inv
    have hn := hr.inv_nil
    subst hn
    have e1 : c.args.map a.eval = #[s'] := by apply Array.ext'; exact he
    refine key (Builtin.unsafeSliceData_ c.argTypes o.type (c.args.map a.eval)) (fun _ => rfl) ?_
    rw [e1]
    exact asliceData_ok h hs h1
  · rename_i pt it x y hts
    obtain ⟨s', l', he, hs, hr⟩ := hargs.inv
    obtain ⟨x', l'', he2, hx, hr2⟩ := hr.inv
    have hn := hr2.inv_nil
    subst hn
    subst he2
    have e1 : c.args.map a.eval = #[s', x'] := by apply Array.ext'; exact he
    have e2 : c.argTypes = #[pt, it] := by apply Array.ext'; exact hts
    refine key (Builtin.unsafeString_ c.argTypes o.type (c.args.map a.eval)) (fun _ => rfl) ?_
    rw [e1, e2]
    exact aunsafeStr_ok hE h hs hx e
  · cases e
/-- A slot is written. -/
def aput (T : Tri Value) (n : Nat) (dst : Option Tmp) (v : Value) : Option (Tri Value) := match dst with
  | none => some T
  | some d => bif Nat.blt d n && Nat.blt n 1048575 then some (T.set 20 d v) else none
structure St (μ : Mp) (H : AH) (T : Tri Value) (n : Nat) (D : List Deferred) (w0 : Base) (a : Act) (w : World) : Prop where
  rel : Rel μ H w0 w
  tmps : TR μ T.get a.tmps
  size : a.tmps.size = n
  defers : a.defers = D
theorem aput_ok {D : List Deferred} {T : Tri Value} (hT : TR μ T.get a.tmps) (hn : a.tmps.size = n) (hd : a.defers = D) {dst : Option Tmp} {v v' : Value} (hv : VR μ v v') {T' : Tri Value} (e : aput T n dst v = some T') : TR μ T'.get (a.put dst v').tmps ∧ (a.put dst v').tmps.size = n ∧ (a.put dst v').defers = D := by
  unfold aput at e
  split at e
  · cases e; exact ⟨hT, hn, hd⟩
  · rename_i d
    cases hb : (Nat.blt d n && Nat.blt n 1048575) with
    | false => rw [hb] at e; cases e
    | true =>
      rw [hb, cond_true] at e
      cases e
      simp only [Bool.and_eq_true] at hb
      have h1 : d < n := Nat.le_of_ble_eq_true hb.1
      have h2 : n < 1048575 := Nat.le_of_ble_eq_true hb.2
      refine ⟨fun t u hu => ?_, by simpa [Act.put] using hn, hd⟩
      rw [Tri.get_set 20 T d t v (Nat.lt_of_le_of_lt (Nat.succ_le_of_lt h1) (Nat.lt_trans h2 (by decide)))] at hu
      simp only [Act.put]
      rw [Array.getElem?_setIfInBounds]
      by_cases e2 : t = d
      · subst e2
        rw [if_pos rfl] at hu
        cases hu
        exact ⟨v', by rw [if_pos rfl, if_pos (by rw [hn]; exact h1)], hv⟩
      · rw [if_neg e2] at hu
        obtain ⟨u', hu1, hu2⟩ := hT t u hu
        exact ⟨u', by rw [if_neg (fun e3 => e2 e3.symm)]; exact hu1, hu2⟩
/-- A fence that keeps nobody out. -/
def fw (r : Option Nat) : Fence := { fn := fun _ => True, depth := none, alive := false, round := r }
theorem room_fw (r : Option Nat) (n : Nat) : (fw r).room n := fun _ h => by cases h
theorem callsIn_fw {r r' : Option Nat} {n n' : Nat} {f : FuncId} {args : Array Value} {R : Ending → World → Prop} (h : CallsIn (fw r) n P f args w R) : CallsIn (fw r') n' P f args w R := ⟨trivial, fun cs _ => h.2 cs (room_fw _ _)⟩
theorem roundIn_fw {r r' : Option Nat} {n n' l : Nat} {f : FuncId} {tmps : Array Value} {as bd : Code} {R : Ending → World → Prop} (h : RoundIn (fw r) n P l f tmps as bd w R) : RoundIn (fw r') n' P l f tmps as bd w R := ⟨trivial, fun c cs _ => h.2 c cs (room_fw _ _)⟩
abbrev Outs := List (Value × AH)
abbrev ACall := FuncId → List Value → AH → Option Outs
abbrev ARound := Nat → List Value → AH → Option Outs
def Back (μ : Mp) (w0 : Base) (outs : Outs) (e : Ending) (w' : World) : Prop := ∃ p ∈ outs, ∃ (ν : Mp) (v' : Value), e = .returned v' ∧ μ.le ν ∧ Rel ν p.2 w0 w' ∧ VR ν p.1 v'
def CallOk (P : Program) (call : ACall) : Prop := ∀ (w0 : Base) (f : FuncId) (l : List Value) (H : AH) (outs : Outs) (μ : Mp) (args : Array Value) (w : World), call f l H = some outs → Rel μ H w0 w → LR μ l args.toList →
  CallsIn (fw none) 0 P f args w (Back μ w0 outs)
def RoundOk (P : Program) (round : ARound) : Prop := ∀ (w0 : Base) (k : Nat) (l : List Value) (H : AH) (outs : Outs) (μ : Mp) (args : Array Value) (w : World) (g z : Nat), round k l H = some outs → Rel μ H w0 w → LR μ l args.toList → μ k = some (g, z) →
  ∃ f tmps as bd, (Instr.yield g args).run P w = .ok (.round g f tmps as bd) w ∧ RoundIn (fw none) 0 P g f tmps as bd w (Back μ w0 outs)
/-- What ends in one way. -/
def one : Option (Value × AH) → Option Outs
  | some p => some [p]
  | none => none
def single : Option Outs → Option (Value × AH)
  | some [p] => some p
  | _ => none
theorem single_one (r : Option (Value × AH)) : single (one r) = r := by cases r <;> rfl
theorem one_some {r : Option (Value × AH)} {outs : Outs} (e : one r = some outs) : ∃ v H', r = some (v, H') ∧ outs = [(v, H')] := by
  cases r with
  | none => cases e
  | some p => cases e; exact ⟨p.1, p.2, rfl, rfl⟩
/-- A call of a function without a body, of plain values. -/
def aextern (P : Program) (E : Env) (T : Nat → Option Value) (H : AH) (c : Call) (f : Operand) : Option (Value × AH) := match aeval T f with
  | some (.func (.func g) x y) => bif E.idf g then (match aevals T c.args.toList with
    | some [v] => bif x.toList.isEmpty && y.toList.isEmpty then some (v, H) else none
    | _ => none) else match E.ext g with
    | some e => match aevals T c.args.toList with
      | some l => bif x.toList.isEmpty && y.toList.isEmpty && l.all isScalar then pairH H (asc (pureRun P (e l.toArray))) else none
      | none => none
    | none => none
  | _ => none
theorem aextern_ok (hE : E.Ok P) (h : Rel μ H w0 w) (ht : TR μ T a.tmps) {o : Oper} {c : Call} (ho : o.op = .call c) {f : Operand} (hc : c.callee = .value f) {v : Value} {H' : AH} (e : aextern P E T H c f = some (v, H')) : Got P (execOp a.eval o) μ w0 w v H' := by
  unfold aextern at e
  split at e
  · rename_i g x y hf
    cases hid : E.idf g with
    | true =>
      rw [hid, cond_true] at e
      split at e
      · rename_i v0 hl
        cases hb : (x.toList.isEmpty && y.toList.isEmpty) with
        | false => rw [hb] at e; cases e
        | true =>
          rw [hb, cond_true] at e
          cases e
          simp only [Bool.and_eq_true] at hb
          have hx : x = #[] := by apply Array.ext'; exact List.isEmpty_iff.1 hb.1
          have hy : y = #[] := by apply Array.ext'; exact List.isEmpty_iff.1 hb.2
          subst hx
          subst hy
          have hargs := LR.map (aevals_ok ht _ _ hl)
          obtain ⟨v', l', he, hs, hr⟩ := hargs.inv
          have hn := hr.inv_nil
          subst hn
          have e2 : c.args.map a.eval = #[v'] := by apply Array.ext'; exact he
          have hv := aeval_ok ht hf
          generalize hav : a.eval f = av at hv
          cases hv with
          | @func _ _ x' _ y' h2 _ h3 _ =>
            have hx' : x' = #[] := by apply Array.eq_empty_of_size_eq_zero; rw [← h2]; rfl
            have hy' : y' = #[] := by apply Array.eq_empty_of_size_eq_zero; rw [← h3]; rfl
            subst hx'
            subst hy'
            have hg := (GotV.pure (P := P) (s := (pure v' : Sem Value)) h rfl hs).val
            obtain ⟨ν, nx, v'', w', r1, r2⟩ := hg
            refine ⟨ν, nx, v'', w', ?_, r2⟩
            rw [← r1]
            unfold execOp
            rw [ho]
            simp only [resolve, hc, hav, Deferred.ofValue, Sem.run_bind, Sem.run_pure, Result.andThen_ok, invoke, e2, Array.empty_append, Array.append_empty]
            rw [hE.idf _ hid]
      · cases e
    | false =>
    rw [hid, cond_false] at e
    split at e
    · rename_i ex hex
      split at e
      · rename_i l hl
        cases hb : (x.toList.isEmpty && y.toList.isEmpty && l.all isScalar) with
        | false => rw [hb] at e; cases e
        | true =>
          rw [hb, cond_true] at e
          simp only [Bool.and_eq_true] at hb
          obtain ⟨h1, rfl⟩ := pairH_some e
          have hx : x = #[] := by apply Array.ext'; exact List.isEmpty_iff.1 hb.1.1
          have hy : y = #[] := by apply Array.ext'; exact List.isEmpty_iff.1 hb.1.2
          subst hx
          subst hy
          have hargs := LR.map (aevals_ok ht _ l hl)
          have e2 : c.args.map a.eval = l.toArray := by
            apply Array.ext'
            exact LR.scalars hargs hb.2
          have hv := aeval_ok ht hf
          generalize hav : a.eval f = av at hv
          cases hv with
          | @func _ _ x' _ y' h2 _ h3 _ =>
            have hx' : x' = #[] := by apply Array.eq_empty_of_size_eq_zero; rw [← h2]; rfl
            have hy' : y' = #[] := by apply Array.eq_empty_of_size_eq_zero; rw [← h3]; rfl
            subst hx'
            subst hy'
            have hg := (asc_ok (P := P) h h1).val
            obtain ⟨ν, nx, v', w', r1, r2⟩ := hg
            refine ⟨ν, nx, v', w', ?_, r2⟩
            rw [← r1]
            unfold execOp
            rw [ho]
            simp only [resolve, hc, hav, Deferred.ofValue, Sem.run_bind, Sem.run_pure, Result.andThen_ok, invoke, e2, Array.empty_append, Array.append_empty]
            rw [hE.ext _ _ hex]
            simp only [Sem.run_bind, Sem.run_pure]
      · cases e
    · cases e
  · cases e
theorem aload_addr {μ : Mp} {b : Base} {w : World} {H : AH} (hE : E.Ok P) (h : Rel μ H b w) {t : Nat} {x x' v : Value} (hx : VR μ x x') (e : aload E H t x = some v) : ∃ v', (do loadVar t (← asAddr x') : Sem Value).run P w = .ok v' w ∧ VR μ v v' := by
  have hx2 : ∃ k o, x = .pointer (some ⟨k, o, none⟩) := by
    unfold aload at e
    split at e
    · exact ⟨_, _, rfl⟩
    · cases e
  obtain ⟨k, o, rfl⟩ := hx2
  have hw : ∀ w1 : World, Rel μ H b w1 → ∃ v', (Instr.loadAt t x').run P w1 = .ok v' w1 ∧ VR μ v v' := by
    intro w1 h1
    cases hx with
    | @ptr _ g s _ hm =>
      simp only [aload] at e
      split at e
      · rename_i c el x rw d i hk hu hi
        cases ha : isAggB d with
        | true =>
          rw [ha, cond_true] at e
          cases hb : Nat.ble (o + i.size) c.length with
          | false => rw [hb] at e; cases e
          | true =>
            rw [hb, cond_true] at e
            cases e
            obtain ⟨r, hr, har⟩ := h1.loads (P := P) hk hm i.size 0 o #[] #[] (by have := Nat.le_of_ble_eq_true hb; simpa using this) ⟨rfl, by simp⟩
            refine ⟨.agg r, ?_, ?_⟩
            · simp only [Instr.loadAt, Instr.sureAddr, Sem.run_bind, Sem.run_pure, Result.andThen_ok, loadVar, run_isAgg hE hu, ha, if_true, run_size hE hi, loadCells, hr]
            · simp only [Nat.add_zero, Array.empty_append] at har
              exact .agg har.1 har.2
        | false =>
          rw [ha, cond_false] at e
          obtain ⟨v', hc, hv⟩ := h1.cell hk hm e
          refine ⟨v', ?_, hv⟩
          simp only [Instr.loadAt, Instr.sureAddr, Sem.run_bind, Sem.run_pure, Result.andThen_ok, loadVar, run_isAgg hE hu, ha, Bool.false_eq_true, if_false, run_load, hc]
      · cases e
  obtain ⟨v', h1, h2⟩ := hw w h
  refine ⟨v', ?_, h2⟩
  rw [← h1]
  cases hx with
  | @ptr _ g s _ hm => simp only [Instr.loadAt, Instr.sureAddr, asAddr, Sem.run_bind, Sem.run_pure, Result.andThen_ok]
def isPtrD : TypeDesc → Bool
  | .pointer _ => true
  | _ => false
/-- A method by way of one field, behind a pointer. -/
def amethod (E : Env) (T : Nat → Option Value) (H : AH) (c : Call) (r : Operand) (name : String) : Option (FuncId × List Value) := match aevals T c.args.toList, aeval T r with
  | some l, some (.iface t (.pointer (some ⟨k, o, none⟩))) => match E.info t with
    | some i => match i.methods.toList.find? (·.name == name) with
      | some m => match m.path.toList, m.func with
        | [s], some (g, false) => bif s.deref then (match E.und s.struct with
          | some (.struct fs) => match fs[s.index]? with
            | some fd => match E.info fd.type, E.und fd.type with
              | some fi, some d => bif Nat.beq fi.size 0 || isPtrD d then none else (match aload E H fd.type (.pointer (some ⟨k, o + fd.offset, none⟩)), E.fn g with
                | some v, some fn => bif fn.body.isSome then some (g, v :: l) else none
                | _, _ => none)
              | _, _ => none
            | none => none
          | _ => none) else none
        | _, _ => none
      | none => none
    | none => none
  | _, _ => none
theorem amethod_ok (hE : E.Ok P) (h : Rel μ H w0 w) (ht : TR μ T a.tmps) {o : Oper} {c : Call} (ho : o.op = .call c) {r : Operand} {name : String} (hc : c.callee = .invoke r name) {g : FuncId} {l : List Value} (e : amethod E T H c r name = some (g, l)) :
    ∃ args : Array Value, (execOp a.eval o).run P w = .ok (.enter g args) w ∧ LR μ l args.toList := by
  unfold amethod at e
  split at e
  · rename_i l0 t k off hl0 hr
    have hargs := LR.map (aevals_ok ht _ l0 hl0)
    split at e
    · rename_i i hi
      split at e
      · rename_i m hm
        split at e
        · rename_i s g' hp hmf
          cases hd : s.deref with
          | false => rw [hd] at e; cases e
          | true =>
            rw [hd, cond_true] at e
            split at e
            · rename_i fs hfs
              split at e
              · rename_i fd hfd
                split at e
                · rename_i fi d hfi hfu
                  cases hz : (Nat.beq fi.size 0 || isPtrD d) with
                  | true => rw [hz] at e; cases e
                  | false =>
                    rw [hz, cond_false] at e
                    rw [Bool.or_eq_false_iff] at hz
                    have hne : fi.size ≠ 0 := fun e => by rw [e] at hz; cases hz.1
                    split at e
                    · rename_i v fn hv hfn
                      cases hb : fn.body.isSome with
                      | false => rw [hb] at e; cases e
                      | true =>
                        rw [hb, cond_true] at e
                        cases e
                        have hvr := aeval_ok ht hr
                        generalize hav : a.eval r = av at hvr
                        cases hvr with
                        | @iface _ _ v1 hvv =>
                          cases hvv with
                          | @ptr _ gg z _ hgm =>
                            obtain ⟨v', q1, q2⟩ := aload_addr (P := P) hE h (VR.ptr (off + fd.offset) hgm) hv
                            refine ⟨#[v'] ++ c.args.map a.eval, ?_, ?_⟩
                            · unfold execOp
                              rw [ho]
                              have hm' : i.methods.find? (·.name == name) = some m := by rw [← Array.find?_toList]; exact hm
                              obtain ⟨D, hD⟩ : ∃ D, P.types.size + Made.depth = D + 1 := by
                                have : 0 < Made.depth := by decide
                                exact ⟨P.types.size + Made.depth - 1, by omega⟩
                              have hq : (loadVar fd.type ⟨gg, off + fd.offset, none⟩).run P w = .ok v' w := by
                                simpa only [asAddr, Sem.run_bind, Sem.run_pure, Result.andThen_ok] using q1
                              have hrecv : ∀ nm, (receiverAt fd.type (.var ⟨gg, off + fd.offset, none⟩) false nm).run P w = .ok v' w := by
                                intro nm
                                unfold receiverAt
                                simp only [Sem.run_bind, run_und hE hfu, Result.andThen_ok]
                                cases d <;> first | exact hq | exact Bool.noConfusion (show true = false from hz.2)
                              have hmeth : (method (D + 1) t (.pointer (some ⟨gg, off, none⟩)) name).run P w = .ok (g, v') w := by
                                unfold method
                                simp only [Sem.run_bind, run_info hE hi, Result.andThen_ok, hm', hp, follow, run_und hE hfs, hfd, hd, if_true, Place.get, Sem.run_pure, asAddr, fieldPlace, run_size hE hfi, if_neg hne, addr_add, hmf]
                                rw [hrecv]
                                rfl
                              simp only [resolve, hc, hav, Sem.run_bind, Sem.run_pure, Result.andThen_ok, invoke]
                              have h0 : ((#[Value.iface t (.pointer (some ⟨gg, off, none⟩))] ++ c.args.map a.eval : Array Value))[0]? = some (.iface t (.pointer (some ⟨gg, off, none⟩))) := by rw [Array.getElem?_append_left (by simp)]; rfl
                              have h1 : (#[Value.iface t (.pointer (some ⟨gg, off, none⟩))] ++ c.args.map a.eval : Array Value).extract 1 (#[Value.iface t (.pointer (some ⟨gg, off, none⟩))] ++ c.args.map a.eval : Array Value).size = c.args.map a.eval := by
                                apply Array.ext'
                                simp
                                exact List.take_of_length_le (by simp)
                              simp only [h0, h1, callMethod, program, Sem.run_bind, Sem.run, Result.andThen_ok, hD, hmeth, run_callFunc hE hfn hb]
                            · rw [Array.toList_append]
                              exact .cons q2 hargs
                    · cases e
                · cases e
              · cases e
            · cases e
        · cases e
      · cases e
    · cases e
  · cases e
/-- One operation. -/
def aoper (P : Program) (E : Env) (Q : Eqs) (call : ACall) (round : ARound) (T : Nat → Option Value) (H : AH) (o : Oper) : Option Outs := match o.op with
  | .call c => match c.callee with
    | .builtin b => match aevals T c.args.toList with
      | some l => one (abuiltin P E H b c.argTypes o.type l)
      | none => none
    | .invoke r nm => match acallee E T c with
      | some (g, l) => call g l H
      | none => match amethod E T H c r nm with
        | some (g, l) => call g l H
        | none => none
    | .value f => match aeval T f with
      | some (.func (.yield k) x y) => bif x.toList.isEmpty && y.toList.isEmpty then (match aevals T c.args.toList with
        | some l => round k l H
        | none => none) else none
      | _ => match acallee E T c with
        | some (g, l) => call g l H
        | none => one (aextern P E T H c f)
  | .next x false => match aeval T x with
    | some v => amnext H v
    | none => none
  | .entry x => match aeval T x with
    | some v => one (pairH H (amentry H v))
    | none => none
  | .range t x => match aeval T x with
    | some (.map m) => one (amrange E H t m)
    | some v => one (arangeS E H t v)
    | none => none
  | op => one (aop P E Q T H op)
theorem upon_got {next : Act → World → Prop} {Qx : Exit → Act → World → Prop} {o : Oper} {r : Option Nat} {m : Nat} (hd : ∀ c, o.op ≠ .defer c) {v : Value} {H' : AH} (hg : Got P (execOp a.eval o) μ w0 w v H') (k : ∀ ν v' w', μ.le ν → Rel ν H' w0 w' → VR ν v v' → next (a.put o.dst v') w') : o.wpIn (fw r) m P a w next Qx := by
  obtain ⟨ν, nx, v', w', r1, r2, r3, r4, r5⟩ := hg
  refine ⟨fun _ _ => trivial, ?_⟩
  rw [Oper.semAt_eq _ _ _ hd, r1]
  rcases r2 with rfl | ⟨rfl, rfl⟩
  · exact k ν v' w' r3 r4 r5
  · exact k ν undef w' r3 r4 r5
theorem aoper_ok (hE : E.Ok P) (hQ : Q.Ok P) {call : ACall} {round : ARound} (hC : CallOk P call) (hR : RoundOk P round) (h : Rel μ H w0 w) (ht : TR μ T a.tmps) {o : Oper} {outs : Outs} (e : aoper P E Q call round T H o = some outs) {next : Act → World → Prop} {Qx : Exit → Act → World → Prop} {r : Option Nat} {m : Nat}
    (k : ∀ p ∈ outs, ∀ ν v' w', μ.le ν → Rel ν p.2 w0 w' → VR ν p.1 v' → next (a.put o.dst v') w') : o.wpIn (fw r) m P a w next Qx := by
  unfold aoper at e
  split at e
  · rename_i c ho
    have hd : ∀ c, o.op ≠ .defer c := fun c' hc => by rw [ho] at hc; cases hc
    have callee : ∀ g l, acallee E T c = some (g, l) → call g l H = some outs → o.wpIn (fw r) m P a w next Qx := by
      intro g l hg hcl
      obtain ⟨args, r1, r2, _⟩ := acallee_ok (w := w) hE ht ho hg
      refine ⟨fun _ _ => trivial, ?_⟩
      rw [Oper.semAt_eq _ _ _ hd, r1, Oper.uponIn_enter]
      refine ⟨(fun hh => by cases hh), (callsIn_fw (hC w0 g l H outs μ args w hcl h r2)).mono ?_⟩
      rintro _ w' ⟨p, hp, ν, v', rfl, h1, h2, h3⟩
      exact k p hp ν v' w' h1 h2 h3
    split at e
    · rename_i b hb
      split at e
      · rename_i l hl
        obtain ⟨v, H', e2, rfl⟩ := one_some e
        exact upon_got hd (abuiltin_ok hE h ht ho hb hl e2) (k (v, H') (by simp))
      · cases e
    · rename_i rr nm hcf
      split at e
      · rename_i g l hg
        exact callee g l hg e
      · split at e
        · rename_i g l hg
          obtain ⟨args, r1, r2⟩ := amethod_ok hE h ht ho hcf hg
          refine ⟨fun _ _ => trivial, ?_⟩
          rw [Oper.semAt_eq _ _ _ hd, r1, Oper.uponIn_enter]
          refine ⟨(fun hh => by cases hh), (callsIn_fw (hC w0 g l H outs μ args w e h r2)).mono ?_⟩
          rintro _ w' ⟨p, hp, ν, v', rfl, h1, h2, h3⟩
          exact k p hp ν v' w' h1 h2 h3
        · cases e
    · rename_i f hcf
      split at e
      · rename_i kk x y hf
        cases hb : (x.toList.isEmpty && y.toList.isEmpty) with
        | false => rw [hb] at e; cases e
        | true =>
          rw [hb, cond_true] at e
          split at e
          · rename_i l hl
            have hv := aeval_ok ht hf
            generalize hav : a.eval f = av at hv
            cases hv with
            | @yield _ g z hm =>
              obtain ⟨fn, tmps, as, bd, r1, r2⟩ := hR w0 kk l H outs μ (c.args.map a.eval) w g z e h (LR.map (aevals_ok ht _ l hl)) hm
              refine ⟨fun _ _ => trivial, ?_⟩
              rw [Oper.semAt_eq _ _ _ hd]
              have hrun : (execOp a.eval o).run P w = .ok (.round g fn tmps as bd) w := by
                unfold execOp
                rw [ho]
                simp only [resolve, hcf, hav, Deferred.ofValue, Sem.run_bind, Sem.run_pure, Result.andThen_ok, invoke, Array.empty_append, r1]
              rw [hrun, Oper.uponIn_round]
              refine ⟨(fun hh => by cases hh), (roundIn_fw r2).mono ?_⟩
              rintro _ w' ⟨p, hp, ν, v', rfl, h1, h2, h3⟩
              exact k p hp ν v' w' h1 h2 h3
          · cases e
      · split at e
        · rename_i g l hg
          exact callee g l hg e
        · obtain ⟨v, H', e2, rfl⟩ := one_some e
          exact upon_got hd (aextern_ok hE h ht ho hcf e2) (k (v, H') (by simp))
  · rename_i x ho
    have hd : ∀ c, o.op ≠ .defer c := fun c' hc => by rw [ho] at hc; cases hc
    split at e
    · rename_i v hv
      obtain ⟨p, hp, hg⟩ := amnext_ok (P := P) h (ty := o.type) (aeval_ok ht hv) e
      refine upon_got hd (v := p.1) (H' := p.2) ?_ (k p hp)
      unfold execOp
      rw [ho]
      exact hg.val
    · cases e
  · rename_i x ho
    have hd : ∀ c, o.op ≠ .defer c := fun c' hc => by rw [ho] at hc; cases hc
    split at e
    · rename_i v hv
      obtain ⟨v2, H', e2, rfl⟩ := one_some e
      obtain ⟨e3, rfl⟩ := pairH_some e2
      refine upon_got hd ?_ (k (v2, H') (by simp))
      unfold execOp
      rw [ho]
      exact (amentry_ok (P := P) h (aeval_ok ht hv) e3).val
    · cases e
  · rename_i t x ho
    have hd : ∀ c, o.op ≠ .defer c := fun c' hc => by rw [ho] at hc; cases hc
    split at e
    · rename_i m hv
      obtain ⟨v2, H', e2, rfl⟩ := one_some e
      refine upon_got hd ?_ (k (v2, H') (by simp))
      unfold execOp
      rw [ho]
      exact (amrange_ok (P := P) hE h (aeval_ok ht hv) e2).val
    · rename_i v hn hv
      obtain ⟨v2, H', e2, rfl⟩ := one_some e
      refine upon_got hd ?_ (k (v2, H') (by simp))
      unfold execOp
      rw [ho]
      exact (arangeS_ok (P := P) hE h (aeval_ok ht hv) e2).val
    · cases e
  · rename_i op hop
    obtain ⟨v, H', e2, rfl⟩ := one_some e
    have hd : ∀ c, o.op ≠ .defer c := fun c hc => by rw [hc] at e2; cases e2
    exact upon_got hd (aop_ok hE hQ h ht e2) (k (v, H') (by simp))
/-- One operation that ends in one way. -/
def aoper1 (P : Program) (E : Env) (Q : Eqs) (call : ACall) (round : ARound) (T : Nat → Option Value) (H : AH) (o : Oper) : Option (Value × AH) := single (aoper P E Q call round T H o)
theorem aoper1_ok (hE : E.Ok P) (hQ : Q.Ok P) {call : ACall} {round : ARound} (hC : CallOk P call) (hR : RoundOk P round) (h : Rel μ H w0 w) (ht : TR μ T a.tmps) {o : Oper} {v : Value} {H' : AH} (e : aoper1 P E Q call round T H o = some (v, H')) {next : Act → World → Prop} {Qx : Exit → Act → World → Prop} {r : Option Nat} {m : Nat}
    (k : ∀ ν v' w', μ.le ν → Rel ν H' w0 w' → VR ν v v' → next (a.put o.dst v') w') : o.wpIn (fw r) m P a w next Qx := by
  unfold aoper1 single at e
  split at e
  · rename_i p hp
    cases e
    refine aoper_ok hE hQ hC hR h ht hp ?_
    intro p hp
    rw [List.mem_singleton] at hp
    subst hp
    exact k
  · cases e
/-- Each of several ways, and on. -/
def abind {α β : Type} (f : α → Option (List β)) : List α → Option (List β)
  | [] => some []
  | x :: xs => match f x, abind f xs with
    | some l, some m => some (l ++ m)
    | _, _ => none
theorem abind_mem {α β : Type} {f : α → Option (List β)} : ∀ {l : List α} {r : List β}, abind f l = some r → ∀ x ∈ l, ∃ m, f x = some m ∧ ∀ y ∈ m, y ∈ r
  | [], _, _, x, hx => by simp at hx
  | z :: l, r, e, x, hx => by
    rw [abind] at e
    split at e
    · rename_i m1 m2 h1 h2
      cases e
      rcases List.mem_cons.1 hx with rfl | hx
      · exact ⟨m1, h1, fun y hy => List.mem_append.2 (.inl hy)⟩
      · obtain ⟨m, h3, h4⟩ := abind_mem h2 x hx
        exact ⟨m, h3, fun y hy => List.mem_append.2 (.inr (h4 y hy))⟩
    · cases e
end
end AM
end Go.Proofs.YtoicnghjjgkebaaGreatDoor
