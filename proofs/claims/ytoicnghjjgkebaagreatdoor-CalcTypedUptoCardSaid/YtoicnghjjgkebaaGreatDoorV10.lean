/-
  The abstract machine's operations, sixth part: values are held against each other; numbers and texts; lengths. No condition.
  The abstract machine's operations, seventh part: signs, conversions, lengths; texts out of bytes and bytes out of texts. No condition.
-/
import Derived.Test.YtoicnghjjgkebaaGreatDoorV8
import Derived.ChangeKeysEq
import Derived.Laws.BytesString
set_option linter.unusedSectionVars false
set_option linter.unusedSimpArgs false
set_option linter.unusedVariables false
set_option linter.unnecessarySimpa false
namespace Go.Proofs.YtoicnghjjgkebaaGreatDoor
namespace AM
open Go.RowKit
variable [Toks]

/-- What is known of types at '=='. -/
structure Eqs where
  ok : Nat → Bool
structure Eqs.Ok (Q : Eqs) (P : Program) : Prop where
  held : ∀ t, Q.ok t = true → P.stoodInHeld t = false
  guard : ∀ t, Q.ok t = true → P.eqGuardType P.depth t = false
section
variable {P : Program} {E : Env} {Q : Eqs} {μ : Mp} {H : AH} {w0 : Base} {w : World}
def beqBytes (a b : ByteArray) : Bool := a.data.toList == b.data.toList
theorem beqBytes_eq (a b : ByteArray) : (a == b) = beqBytes a b := by
  rw [beq_toListBytes, ByteArray.toList_eq, ByteArray.toList_eq]; rfl
def aeqFields (E : Env) (eq : Nat → Value → Value → Option Bool) (xs ys : List Value) : List Field → Option Bool
  | [] => some true
  | f :: fs => bif f.name == "_" then aeqFields E eq xs ys fs else
    match apart E f.type xs f.offset, apart E f.type ys f.offset with
    | some a, some b => match eq f.type a b with
      | some true => aeqFields E eq xs ys fs
      | some false => some false
      | none => none
    | _, _ => none
def aeqItems (E : Env) (eq : Nat → Value → Value → Option Bool) (el sz : Nat) (xs ys : List Value) : List Nat → Option Bool
  | [] => some true
  | i :: l => match apart E el xs (i * sz), apart E el ys (i * sz) with
    | some a, some b => match eq el a b with
      | some true => aeqItems E eq el sz xs ys l
      | some false => some false
      | none => none
    | _, _ => none
def aeq (E : Env) (Q : Eqs) : Nat → Nat → Value → Value → Option Bool
  | 0, _, _, _ => none
  | d + 1, t, x, y => match E.und t with
    | none => none
    | some ds => match ds, x, y with
      | .bool, .bool a, .bool b => some (a == b)
      | .int _, .int k a, .int k' b => if k = k' then some (a == b) else none
      | .string, .string a, .string b => some (beqBytes a b)
      | .int _, .complex _ 0 k, .complex _ 0 j => bif Nat.beq k j then some true else none
      | .string, .complex _ 1 k, .complex _ 1 j => bif Nat.beq k j then some true else none
      | .bool, .complex _ 2 k, .complex _ 2 j => bif Nat.beq k j then some true else none
      | .int _, .complex _ 0 k, .int q n => E.teqI k q n
      | .string, .complex _ 1 k, .string s => E.teqS k s
      | .bool, .complex _ 2 k, .bool c => E.teqB k c
      | .pointer _, .pointer none, .pointer none => some true
      | .pointer _, .pointer none, .pointer (some _) => some false
      | .pointer _, .pointer (some _), .pointer none => some false
      | .pointer el, .pointer (some ⟨k, o, none⟩), .pointer (some ⟨j, p, none⟩) => match E.info el with
        | some i => bif Nat.beq i.size 0 then none else bif Nat.beq k j then some (Nat.beq o p) else none
        | none => none
      | .interface _, .nilIface, .nilIface => some true
      | .interface _, .nilIface, .iface _ _ => some false
      | .interface _, .iface _ _, .nilIface => some false
      | .interface _, .iface tx vx, .iface ty vy => bif Nat.beq tx ty then (match E.info tx with
        | some i => bif i.comparable then aeq E Q d tx vx vy else none
        | none => none) else some false
      | .struct fs, .agg xs, .agg ys => bif Q.ok t then aeqFields E (aeq E Q d) xs.toList ys.toList fs.toList else none
      | .array n el, .agg xs, .agg ys => match E.info el with
        | some i => aeqItems E (aeq E Q d) el i.size xs.toList ys.toList (List.range n)
        | none => none
      | .slice _, .slice none _ _, .slice none _ _ => some true
      | .slice _, .slice none _ _, .slice (some _) _ _ => some false
      | .slice _, .slice (some _) _ _, .slice none _ _ => some false
      | .map _ _, .map none, .map none => some true
      | .map _ _, .map none, .map (some _) => some false
      | .map _ _, .map (some _), .map none => some false
      | .func _ _ _, .nilFunc, .nilFunc => some true
      | .func _ _ _, .nilFunc, .func _ _ _ => some false
      | .func _ _ _, .func _ _ _, .nilFunc => some false
      | _, _, _ => none
theorem beqBytes_self (a : ByteArray) : (a == a) = true := by rw [beqBytes_eq]; unfold beqBytes; simp
theorem aeqFields_ok (hE : E.Ok P) {eq : Nat → Value → Value → Option Bool} {D : Nat} (heq : ∀ t x x' y y' b, VR μ x x' → VR μ y y' → eq t x y = some b → (Op.equalIn D t x' y').run P w = .ok b w) {xs xs' ys ys' : Array Value} (hx : AR μ xs xs') (hy : AR μ ys ys') :
    ∀ (fs : List Field) (b : Bool), aeqFields E eq xs.toList ys.toList fs = some b → (Op.eqFields D xs' ys' fs).run P w = .ok b w
  | [], b, e => by cases e; rfl
  | f :: fs, b, e => by
    simp only [aeqFields] at e
    cases hn : (f.name == "_") with
    | true =>
      rw [hn, cond_true] at e
      simp only [Op.eqFields]
      rw [if_neg (by simpa using hn)]
      exact aeqFields_ok hE heq hx hy fs b e
    | false =>
      rw [hn, cond_false] at e
      split at e
      · rename_i a c ha hc
        obtain ⟨a', r1, v1⟩ := apart_ok hE hx ha w
        obtain ⟨c', r2, v2⟩ := apart_ok hE hy hc w
        simp only [Op.eqFields]
        rw [if_pos (by simpa using hn)]
        split at e
        · rename_i he
          simp only [Sem.run_bind, r1, r2, Result.andThen_ok, heq _ _ _ _ _ _ v1 v2 he, Bool.not_true, Bool.false_eq_true, if_false]
          exact aeqFields_ok hE heq hx hy fs b e
        · rename_i he
          cases e
          simp only [Sem.run_bind, r1, r2, Result.andThen_ok, heq _ _ _ _ _ _ v1 v2 he, Bool.not_false, if_true, Sem.run_pure]
        · cases e
      · cases e
theorem aeqItems_ok (hE : E.Ok P) {eq : Nat → Value → Value → Option Bool} {D : Nat} (heq : ∀ t x x' y y' b, VR μ x x' → VR μ y y' → eq t x y = some b → (Op.equalIn D t x' y').run P w = .ok b w) {el sz : Nat} {xs xs' ys ys' : Array Value} (hx : AR μ xs xs') (hy : AR μ ys ys') :
    ∀ (l : List Nat) (b : Bool), aeqItems E eq el sz xs.toList ys.toList l = some b → (Op.eqItems D el sz xs' ys' l).run P w = .ok b w
  | [], b, e => by cases e; rfl
  | i :: l, b, e => by
    simp only [aeqItems] at e
    split at e
    · rename_i a c ha hc
      obtain ⟨a', r1, v1⟩ := apart_ok hE hx ha w
      obtain ⟨c', r2, v2⟩ := apart_ok hE hy hc w
      simp only [Op.eqItems]
      split at e
      · rename_i he
        simp only [Sem.run_bind, r1, r2, Result.andThen_ok, heq _ _ _ _ _ _ v1 v2 he, Bool.not_true, Bool.false_eq_true, if_false]
        first | exact aeqItems_ok hE heq hx hy l b e | (simp only [if_true]; exact aeqItems_ok hE heq hx hy l b e)
      · rename_i he
        cases e
        simp only [Sem.run_bind, r1, r2, Result.andThen_ok, heq _ _ _ _ _ _ v1 v2 he, Bool.not_false, if_true, Sem.run_pure]
        first | done | rfl | simp
      · cases e
    · cases e
set_option maxHeartbeats 2000000 in
theorem aeq_ok (hE : E.Ok P) (hQ : Q.Ok P) (h : Rel μ H w0 w) : ∀ (d t : Nat) (x x' y y' : Value) (b : Bool) (D : Nat), d ≤ D → VR μ x x' → VR μ y y' → aeq E Q d t x y = some b → (Op.equalIn D t x' y').run P w = .ok b w
  | 0, _, _, _, _, _, _, _, _, _, _, e => by simp [aeq] at e
  | d + 1, t, x, x', y, y', b, 0, hD, _, _, _ => by omega
  | d + 1, t, x, x', y, y', b, D + 1, hD, hx, hy, e => by
    have ih := aeq_ok hE hQ h d
    simp only [aeq] at e
    split at e
    · cases e
    · rename_i ds hu
      have hu' := hE.und _ _ hu
      split at e
      · cases hx; cases hy; cases e
        simp only [Op.equalIn, Sem.run_bind, run_und hE hu, Result.andThen_ok, Sem.run_pure]
      · cases hx; cases hy
        split at e
        · rename_i hk
          cases e
          simp only [Op.equalIn, Sem.run_bind, run_und hE hu, Result.andThen_ok, if_pos hk, Sem.run_pure]
        · cases e
      · cases hx; cases hy; cases e
        simp only [Op.equalIn, Sem.run_bind, run_und hE hu, Result.andThen_ok, Sem.run_pure, beqBytes_eq]
      · cases hx; cases hy
        rename_i _ k _ j
        cases hk : Nat.beq k j with
        | false => rw [hk] at e; cases e
        | true =>
          rw [hk, cond_true] at e
          cases e
          obtain rfl := Nat.eq_of_beq_eq_true hk
          simp only [Op.equalIn, Sem.run_bind, run_und hE hu, Result.andThen_ok, if_true, Sem.run_pure, beq_self_eq_true]
      · cases hx; cases hy
        rename_i _ k _ j
        cases hk : Nat.beq k j with
        | false => rw [hk] at e; cases e
        | true =>
          rw [hk, cond_true] at e
          cases e
          obtain rfl := Nat.eq_of_beq_eq_true hk
          simp only [Op.equalIn, Sem.run_bind, run_und hE hu, Result.andThen_ok, Sem.run_pure, beqBytes_self]
      · cases hx; cases hy
        rename_i _ k _ j
        cases hk : Nat.beq k j with
        | false => rw [hk] at e; cases e
        | true =>
          rw [hk, cond_true] at e
          cases e
          obtain rfl := Nat.eq_of_beq_eq_true hk
          simp only [Op.equalIn, Sem.run_bind, run_und hE hu, Result.andThen_ok, Sem.run_pure, beq_self_eq_true]
      · cases hx; cases hy
        obtain ⟨h1, h2⟩ := hE.teqI _ _ _ _ e
        simp only [Op.equalIn, Sem.run_bind, run_und hE hu, Result.andThen_ok, if_pos h1, Sem.run_pure, h2]
      · cases hx; cases hy
        have h2 := hE.teqS _ _ _ e
        simp only [Op.equalIn, Sem.run_bind, run_und hE hu, Result.andThen_ok, Sem.run_pure, h2]
      · cases hx; cases hy
        have h2 := hE.teqB _ _ _ e
        simp only [Op.equalIn, Sem.run_bind, run_und hE hu, Result.andThen_ok, Sem.run_pure, h2]
      · cases hx; cases hy; cases e
        simp only [Op.equalIn, Sem.run_bind, run_und hE hu, Result.andThen_ok, Sem.run_pure]; rfl
      · cases hx; cases hy; cases e
        simp only [Op.equalIn, Sem.run_bind, run_und hE hu, Result.andThen_ok, Sem.run_pure]; rfl
      · cases hx; cases hy; cases e
        simp only [Op.equalIn, Sem.run_bind, run_und hE hu, Result.andThen_ok, Sem.run_pure]
      · split at e
        · rename_i i hi
          cases hz : Nat.beq i.size 0 with
          | true => rw [hz] at e; cases e
          | false =>
            rw [hz, cond_false] at e
            have hne : i.size ≠ 0 := fun e' => by rw [e'] at hz; cases hz
            cases hx with
            | @ptr k g s o hm =>
              cases hy with
              | @ptr j g2 s2 p hm2 =>
                rename_i el k o j p _
                cases hk : Nat.beq k j with
                | false => rw [hk] at e; cases e
                | true =>
                  rw [hk, cond_true] at e
                  cases e
                  have := Nat.eq_of_beq_eq_true hk
                  subst this
                  rw [hm] at hm2
                  cases hm2
                  simp only [Op.equalIn, Sem.run_bind, run_und hE hu, Result.andThen_ok, run_size hE hi]
                  rw [if_pos hne]
                  simp only [sameAddr, beq_self_eq_true, if_true, Sem.run_pure]
                  congr 1
                  cases hb : Nat.beq o p with
                  | true => have := Nat.eq_of_beq_eq_true hb; subst this; simp
                  | false =>
                    have : o ≠ p := fun e' => by subst e'; simp at hb
                    rw [beq_eq_false_iff_ne]
                    intro e'
                    injection e' with _ e'
                    exact this e'
        · cases e
      · cases hx; cases hy; cases e
        simp only [Op.equalIn, Sem.run_bind, run_und hE hu, Result.andThen_ok, Sem.run_pure]
      · cases hx; cases hy; cases e
        simp only [Op.equalIn, Sem.run_bind, run_und hE hu, Result.andThen_ok, Sem.run_pure]
      · cases hx; cases hy; cases e
        simp only [Op.equalIn, Sem.run_bind, run_und hE hu, Result.andThen_ok, Sem.run_pure]
      · rename_i tx vx ty vy
        cases hx with
        | iface t1 hvx =>
          cases hy with
          | iface t2 hvy =>
            cases ht : Nat.beq tx ty with
            | false =>
              rw [ht, cond_false] at e
              cases e
              have : tx ≠ ty := fun e' => by subst e'; simp at ht
              simp only [Op.equalIn, Sem.run_bind, run_und hE hu, Result.andThen_ok]
              rw [if_pos this]; rfl
            | true =>
              rw [ht, cond_true] at e
              have := Nat.eq_of_beq_eq_true ht
              subst this
              split at e
              · rename_i i hi
                cases hc : i.comparable with
                | false => rw [hc] at e; cases e
                | true =>
                  rw [hc, cond_true] at e
                  simp only [Op.equalIn, Sem.run_bind, run_und hE hu, Result.andThen_ok]
                  rw [if_neg (by simp)]
                  simp only [Sem.run_bind, run_info hE hi, Result.andThen_ok, hc, Bool.not_true, Bool.false_eq_true, if_false]
                  exact ih _ _ _ _ _ _ D (by omega) hvx hvy e
              · cases e
      · rename_i fs xs ys
        cases ho : Q.ok t with
        | false => rw [ho] at e; cases e
        | true =>
          rw [ho, cond_true] at e
          have hf : P.fieldsOf t = fs := by simp [Program.fieldsOf, hu']
          cases hx with
          | agg h1 h2 =>
            cases hy with
            | agg h3 h4 =>
              rw [run_equalIn_struct w D t _ _ (by rw [hf]; exact hu') (hQ.held t ho), hf]
              exact aeqFields_ok hE (fun t x x' y y' b hx hy e => ih t x x' y y' b D (by omega) hx hy e) ⟨h1, h2⟩ ⟨h3, h4⟩ fs.toList b e
      · split at e
        · rename_i i hi
          cases hx with
          | agg h1 h2 =>
            cases hy with
            | agg h3 h4 =>
              have hsz := congrArg (fun x => ((x.map TypeInfo.size).getD 0)) (hE.info _ _ hi)
              have hsz : P.cellsOf _ = i.size := hsz
              rw [run_equalIn_array w D _ _ hu' (hE.info _ _ hi), hsz]
              exact aeqItems_ok hE (fun t x x' y y' b hx hy e => ih t x x' y y' b D (by omega) hx hy e) ⟨h1, h2⟩ ⟨h3, h4⟩ _ b e
        · cases e
      · cases hx; cases hy; cases e
        simp only [Op.equalIn, Sem.run_bind, run_und hE hu, Result.andThen_ok, Sem.run_pure]; rfl
      · cases hx; cases e
        cases hy <;> (simp only [Op.equalIn, Sem.run_bind, run_und hE hu, Result.andThen_ok, Sem.run_pure]; rfl)
      · cases hy; cases e
        cases hx <;> simp only [Op.equalIn, Sem.run_bind, run_und hE hu, Result.andThen_ok, Sem.run_pure]
      · cases hx; cases hy; cases e
        simp only [Op.equalIn, Sem.run_bind, run_und hE hu, Result.andThen_ok, Sem.run_pure]; rfl
      · cases hx; cases hy; cases e
        simp only [Op.equalIn, Sem.run_bind, run_und hE hu, Result.andThen_ok, Sem.run_pure]; rfl
      · cases hx; cases hy; cases e
        simp only [Op.equalIn, Sem.run_bind, run_und hE hu, Result.andThen_ok, Sem.run_pure]
      · cases hx; cases hy; cases e
        simp only [Op.equalIn, Sem.run_bind, run_und hE hu, Result.andThen_ok, Sem.run_pure]
      · cases hx; cases e
        cases hy <;> simp only [Op.equalIn, Sem.run_bind, run_und hE hu, Result.andThen_ok, Sem.run_pure]
      · cases hy; cases e
        cases hx <;> simp only [Op.equalIn, Sem.run_bind, run_und hE hu, Result.andThen_ok, Sem.run_pure]
      · cases e
end
end AM
end Go.Proofs.YtoicnghjjgkebaaGreatDoor
namespace Go.Proofs.YtoicnghjjgkebaaGreatDoor
namespace AM
open Go.RowKit
variable [Toks]

section
variable {P : Program} {E : Env} {Q : Eqs} {μ : Mp} {H : AH} {w0 : Base} {w : World}
def asc (r : Option Value) : Option Value := match r with
  | some v => bif isScalar v then some v else none
  | none => none
theorem asc_ok (h : Rel μ H w0 w) {s : Sem Value} {v : Value} (e : asc (pureRun P s) = some v) : GotV P s μ w0 w v H := by
  unfold asc at e
  split at e
  · rename_i u hu
    cases hs : isScalar u with
    | false => rw [hs] at e; cases e
    | true =>
      rw [hs] at e; cases e
      exact .pure h (pureRun_ok hu w) (.of_scalar μ hs)
  · cases e
def aguard (Q : Eqs) (t : Nat) (cx cy : Bool) : Value → Value → Bool
  | .nilIface, .nilIface => cx || cy
  | .agg _, .agg _ => Q.ok t
  | _, _ => true
def isConstB : Operand → Bool
  | .const _ => true
  | _ => false
theorem aguard_ok (hQ : Q.Ok P) {op : BinOp} {t : Nat} {x y : Operand} {v v' u u' : Value} (hx : VR μ v v') (hy : VR μ u u') (hg : aguard Q t (isConstB x) (isConstB y) v u = true) : (eqGuard op t x y v' u').run P w = .ok () w := by
  cases hx with
  | bool b => rw [eqGuard_at_bool]; rfl
  | int k n => rw [eqGuard_at_int]; rfl
  | string s => rw [eqGuard_at_string]; rfl
  | pnil => rw [eqGuard_at_pointer]; rfl
  | ptr o e => rw [eqGuard_at_pointer]; rfl
  | snil n c => rw [eqGuard_at_slice]; rfl
  | sl o n c e e2 => rw [eqGuard_at_slice]; rfl
  | slx o n c c' e e1 e2 e3 e4 e5 e6 => rw [eqGuard_at_slice]; rfl
  | mnil => rw [eqGuard_at_map]; rfl
  | map e => rw [eqGuard_at_map]; rfl
  | nilFunc => rw [eqGuard_at_nilFunc]; rfl
  | iface t v => rw [eqGuard_at_iface]; rfl
  | func f _ _ _ _ => rw [eqGuard_at_func]; rfl
  | tuple _ _ => rw [eqGuard_at_tuple]; rfl
  | unkI k n => rw [eqGuard_at_int]; rfl
  | unkS s => rw [eqGuard_at_string]; rfl
  | unkN n => rw [eqGuard_at_int]; rfl
  | unkB b => rw [eqGuard_at_bool]; rfl
  | tokI q k => rw [eqGuard_at_int]; rfl
  | tokS q k => rw [eqGuard_at_string]; rfl
  | tokB q k => rw [eqGuard_at_bool]; rfl
  | yield _ => rw [eqGuard_at_func]; rfl
  | nilIface =>
    cases hy with
    | nilIface =>
      simp only [aguard, Bool.or_eq_true] at hg
      rcases hg with hg | hg
      · cases x with
        | const c => rw [eqGuard_nil_constL]; rfl
        | _ => cases hg
      · cases y with
        | const c => rw [eqGuard_nil_constR]; rfl
        | _ => cases hg
    | _ => cases op <;> rfl
  | agg h1 h2 =>
    cases hy with
    | agg h3 h4 => exact run_eqGuard_agg w op t x y _ _ (hQ.guard t hg)
    | _ => cases op <;> rfl
/-- Of which no more is known than its kind. -/
def isUnk : Value → Bool
  | .chan _ | .complex _ _ _ => true
  | _ => false
def aunk (E : Env) : BinOp → Value → Value → Option Value
  | .gtr, .chan (some 1), .int .i64 _ => some (.chan (some 2))
  | .lss, .chan (some 1), .int .i64 _ => some (.chan (some 2))
  | .eql, .complex _ 0 k, .complex _ 0 j => bif Nat.beq k j then some (.bool true) else none
  | .eql, .complex _ 1 k, .complex _ 1 j => bif Nat.beq k j then some (.bool true) else none
  | .neq, .complex _ 0 k, .complex _ 0 j => bif Nat.beq k j then some (.bool false) else none
  | .neq, .complex _ 1 k, .complex _ 1 j => bif Nat.beq k j then some (.bool false) else none
  | .eql, .complex _ 1 k, .string s => match E.teqS k s with
    | some b => some (.bool b)
    | none => none
  | .neq, .complex _ 1 k, .string s => match E.teqS k s with
    | some b => some (.bool !b)
    | none => none
  | op, .complex _ 0 k, u => bif isScalar u then (match E.tbin op k u with
    | some r => bif isScalar r then some r else none
    | none => none) else none
  | _, _, _ => none
theorem aunk_ok (hE : E.Ok P) (h : Rel μ H w0 w) {op : BinOp} {t : Nat} {v v' u u' r : Value} (hx : VR μ v v') (hy : VR μ u u') (e : aunk E op v u = some r) : GotV P (binOp op t v' u') μ w0 w r H := by
  unfold aunk at e
  split at e
  · cases hx; cases hy; cases e
    exact .pure h (v' := .bool _) rfl (.unkB _)
  · cases hx; cases hy; cases e
    exact .pure h (v' := .bool _) rfl (.unkB _)
  · cases hx; cases hy
    rename_i _ k _ j
    cases hk : Nat.beq k j with
    | false => rw [hk] at e; cases e
    | true =>
      rw [hk, cond_true] at e
      cases e
      obtain rfl := Nat.eq_of_beq_eq_true hk
      exact .pure h (v' := .bool true) (by simp [go_sem]) (.bool _)
  · cases hx; cases hy
    rename_i _ k _ j
    cases hk : Nat.beq k j with
    | false => rw [hk] at e; cases e
    | true =>
      rw [hk, cond_true] at e
      cases e
      obtain rfl := Nat.eq_of_beq_eq_true hk
      exact .pure h (v' := .bool true) (by simp [go_sem]) (.bool _)
  · cases hx; cases hy
    rename_i _ k _ j
    cases hk : Nat.beq k j with
    | false => rw [hk] at e; cases e
    | true =>
      rw [hk, cond_true] at e
      cases e
      obtain rfl := Nat.eq_of_beq_eq_true hk
      exact .pure h (v' := .bool false) (by simp [go_sem]) (.bool _)
  · cases hx; cases hy
    rename_i _ k _ j
    cases hk : Nat.beq k j with
    | false => rw [hk] at e; cases e
    | true =>
      rw [hk, cond_true] at e
      cases e
      obtain rfl := Nat.eq_of_beq_eq_true hk
      exact .pure h (v' := .bool false) (by simp [go_sem]) (.bool _)
  · cases hx; cases hy
    split at e
    · rename_i b hb
      cases e
      have := hE.teqS _ _ _ hb
      exact .pure h (v' := .bool b) (by rw [← this, binOp_string_eql, beq_toListBytes]; rfl) (.bool _)
    · cases e
  · cases hx; cases hy
    split at e
    · rename_i b hb
      cases e
      have := hE.teqS _ _ _ hb
      exact .pure h (v' := .bool !b) (by rw [← this, binOp_string_neq, beq_toListBytes]; rfl) (.bool _)
    · cases e
  · rename_i u0 hu0
    cases hx
    cases hs : isScalar u with
    | false => rw [hs] at e; cases e
    | true =>
      rw [hs, cond_true] at e
      split at e
      · rename_i r0 hr0
        cases hs2 : isScalar r0 with
        | false => rw [hs2] at e; cases e
        | true =>
          rw [hs2, cond_true] at e
          cases e
          rw [hy.scalar hs]
          exact .pure h (hE.tbin _ _ _ _ hr0 t w) (.of_scalar μ hs2)
      · cases e
  · cases e
theorem binOp_eql_gen {t : Nat} {v v' u u' : Value} (hx : VR μ v v') (hy : VR μ u u') (h : (isScalar v && isScalar u) = false) (hk : (isUnk v || isUnk u) = false) : binOp .eql t v' u' = (do pure (.bool (← Op.equal t v' u'))) := by
  cases hx <;> first | (simp [isUnk] at hk; done) | (cases hy <;> first | rfl | (simp [isUnk] at hk; done) | (simp [isScalar] at h))
theorem binOp_neq_gen {t : Nat} {v v' u u' : Value} (hx : VR μ v v') (hy : VR μ u u') (h : (isScalar v && isScalar u) = false) (hk : (isUnk v || isUnk u) = false) : binOp .neq t v' u' = (do pure (.bool (!(← Op.equal t v' u')))) := by
  cases hx <;> first | (simp [isUnk] at hk; done) | (cases hy <;> first | rfl | (simp [isUnk] at hk; done) | (simp [isScalar] at h))
def abin (P : Program) (E : Env) (Q : Eqs) (H : AH) (op : BinOp) (t : Nat) (cx cy : Bool) (v u : Value) : Option Value :=
  bif aguard Q t cx cy v u then
    (bif isUnk v || isUnk u then aunk E op v u else bif isScalar v && isScalar u then asc (pureRun P (binOp op t v u)) else match op with
      | .eql => match aeq E Q 40 t v u with
        | some b => some (.bool b)
        | none => none
      | .neq => match aeq E Q 40 t v u with
        | some b => some (.bool !b)
        | none => none
      | _ => none)
  else none
theorem abin_ok (hE : E.Ok P) (hQ : Q.Ok P) (h : Rel μ H w0 w) {op : BinOp} {t : Nat} {x y : Operand} {v v' u u' r : Value} (hx : VR μ v v') (hy : VR μ u u') (e : abin P E Q H op t (isConstB x) (isConstB y) v u = some r) :
    GotV P (do eqGuard op t x y v' u'; binOp op t v' u') μ w0 w r H := by
  unfold abin at e
  cases hg : aguard Q t (isConstB x) (isConstB y) v u with
  | false => rw [hg] at e; cases e
  | true =>
    rw [hg, cond_true] at e
    have hgr := aguard_ok (P := P) (w := w) (op := op) hQ hx hy hg
    have key : ∀ s : Sem Value, GotV P s μ w0 w r H → GotV P (do eqGuard op t x y v' u'; s) μ w0 w r H := by
      rintro s ⟨ν, v1, w1, r1, r2⟩
      refine ⟨ν, v1, w1, ?_, r2⟩
      simp only [Sem.run_bind, hgr, Result.andThen_ok, r1]
    apply key
    cases hk : (isUnk v || isUnk u) with
    | true =>
      rw [hk, cond_true] at e
      exact aunk_ok hE h hx hy e
    | false =>
    rw [hk, cond_false] at e
    cases hs : (isScalar v && isScalar u) with
    | true =>
      rw [hs, cond_true] at e
      rw [Bool.and_eq_true] at hs
      rw [hx.scalar hs.1, hy.scalar hs.2]
      exact asc_ok h e
    | false =>
      rw [hs, cond_false] at e
      split at e
      · split at e
        · rename_i b hb
          cases e
          rw [binOp_eql_gen hx hy hs hk]
          refine .pure h (v' := .bool b) ?_ (.bool b)
          have := aeq_ok hE hQ h 40 t v v' u u' b 10000 (by decide) hx hy hb
          simp only [Sem.run_bind, Op.equal, Op.maxDepth, this, Result.andThen_ok, Sem.run_pure]
        · cases e
      · split at e
        · rename_i b hb
          cases e
          rw [binOp_neq_gen hx hy hs hk]
          refine .pure h (v' := .bool !b) ?_ (.bool _)
          have := aeq_ok hE hQ h 40 t v v' u u' b 10000 (by decide) hx hy hb
          simp only [Sem.run_bind, Op.equal, Op.maxDepth, this, Result.andThen_ok, Sem.run_pure]
        · cases e
      · cases e
def aun (P : Program) (op : UnOp) (v : Value) : Option Value := bif isScalar v then asc (pureRun P (Op.unary op v)) else none
theorem aun_ok (h : Rel μ H w0 w) {op : UnOp} {v v' r : Value} (hx : VR μ v v') (e : aun P op v = some r) : GotV P (Op.unary op v') μ w0 w r H := by
  unfold aun at e
  cases hs : isScalar v with
  | false => rw [hs] at e; cases e
  | true =>
    rw [hs, cond_true] at e
    rw [hx.scalar hs]
    exact asc_ok h e
/-- Bytes of cells. -/
def abytes : List Value → Option (List UInt8)
  | [] => some []
  | .int .u8 n :: l => match abytes l with
    | some r => some (UInt8.ofNat n.toNat :: r)
    | none => none
  | _ :: _ => none
theorem abytes_ok : ∀ (l : List Value) (r : List UInt8), abytes l = some r → ∃ ns : List Int, l = ns.map (Value.int .u8) ∧ r = ns.map fun n => UInt8.ofNat n.toNat
  | [], r, e => by cases e; exact ⟨[], rfl, rfl⟩
  | .int .u8 n :: l, r, e => by
    simp only [abytes] at e
    split at e
    · rename_i r' hr
      cases e
      obtain ⟨ns, rfl, rfl⟩ := abytes_ok l r' hr
      exact ⟨n :: ns, rfl, rfl⟩
    · cases e
  | .int .i8 _ :: _, _, e | .int .i16 _ :: _, _, e | .int .i32 _ :: _, _, e | .int .i64 _ :: _, _, e | .int .u16 _ :: _, _, e | .int .u32 _ :: _, _, e | .int .u64 _ :: _, _, e => by simp [abytes] at e
  | .bool _ :: _, _, e | .float _ _ :: _, _, e | .complex _ _ _ :: _, _, e | .string _ :: _, _, e | .pointer _ :: _, _, e | .slice _ _ _ :: _, _, e | .map _ :: _, _, e | .chan _ :: _, _, e | .func _ _ _ :: _, _, e | .nilFunc :: _, _, e | .iface _ _ :: _, _, e | .nilIface :: _, _, e | .agg _ :: _, _, e | .tuple _ :: _, _, e => by simp [abytes] at e
theorem foldl_push (ns : List Int) (s : ByteArray) : ns.foldl (fun r n => r.push (UInt8.ofNat n.toNat)) s = ⟨(s.data.toList ++ ns.map fun n => UInt8.ofNat n.toNat).toArray⟩ := by
  induction ns generalizing s with
  | nil => simp
  | cons n ns ih =>
    rw [List.foldl_cons, ih]
    simp [ByteArray.push]
theorem LR.ints {μ : Mp} : ∀ (ns : List Int) (l : List Value), LR μ (ns.map (Value.int .u8)) l → l = ns.map (Value.int .u8)
  | [], l, h => by rw [h.inv_nil]; rfl
  | n :: ns, l, h => by
    obtain ⟨v, m, rfl, hv, hm⟩ := LR.inv (μ := μ) h
    cases hv
    rw [LR.ints ns m hm]; rfl
/-- Conversions: numbers; texts to bytes; bytes to texts. -/
def aconv (P : Program) (E : Env) (H : AH) (src dst : Nat) (v : Value) : Option (Value × AH) := match E.und src, E.und dst, v with
  | some .string, some (.slice el), .string s => match E.und el with
    | some (.int .u8) => bif Nat.blt (H.next + 1) 1099511627776 && Nat.blt s.data.toList.length big then
        some (.slice (some ⟨H.next, 0, none⟩) s.data.toList.length (1 * big + s.data.toList.length), H.alloc (.cells (s.data.toList.map fun b => .int .u8 b.toNat) el false true)) else none
    | _ => none
  | some (.slice el), some .string, .slice none _ _ => match E.und el with
    | some (.int .u8) => some (.string ⟨#[]⟩, H)
    | _ => none
  | some (.slice el), some .string, .slice (some ⟨k, o, none⟩) n _ => match E.und el, H.t.get k with
    | some (.int .u8), some (.cells c _ _ _) => bif Nat.ble (o + n) c.length then (match abytes ((c.drop o).take n) with
        | some r => some (.string ⟨r.toArray⟩, H)
        | none => none) else none
    | _, _ => none
  | some (.slice _), some (.slice el), .slice (some ⟨k, o, none⟩) n c => match E.und el, H.t.get k with
    | some (.int .u8), some (.cells _ _ _ true) => bif Nat.beq src dst then some (.slice (some ⟨k, o, none⟩) n c, H) else none
    | _, _ => none
  | some _, some _, .complex q 0 k => match E.tcv src dst k with
    | some j => some (.complex q 0 j, H)
    | none => none
  | some _, some _, _ => bif isScalar v then (match asc (pureRun P (convert src dst v)) with
    | some r => some (r, H)
    | none => none) else none
  | _, _, _ => none
end
end AM
end Go.Proofs.YtoicnghjjgkebaaGreatDoor
