/-
  The abstract machine's operations, sixth part: values are held against each other; numbers and texts; lengths. No condition.
-/
import Derived.Test.YtccnkkffeokgcaaGreatDoorV8
import Derived.ChangeKeysEq
namespace Go.Proofs.YtccnkkffeokgcaaGreatDoor
namespace AM
open Go.RowKit

/-- What is known of types at '=='. -/
structure Eqs where
  ok : Nat → Bool
structure Eqs.Ok (Q : Eqs) (P : Program) : Prop where
  held : ∀ t, Q.ok t = true → P.stoodInHeld t = false
  guard : ∀ t, Q.ok t = true → P.eqGuardType P.depth t = false
section
variable {P : Program} {E : Env} {Q : Eqs} {μ : Mp} {H : AH} {w0 : Base} {w : World}
def beqBytes (a b : ByteArray) : Bool := a.data.toList == b.data.toList
theorem beqBytes_eq (a b : ByteArray) : (a == b) = beqBytes a b := by
  rw [beq_toListBytes, ByteArray.toList_eq, ByteArray.toList_eq]; rfl
def aeqFields (E : Env) (eq : Nat → Value → Value → Option Bool) (xs ys : List Value) : List Field → Option Bool
  | [] => some true
  | f :: fs => bif f.name == "_" then aeqFields E eq xs ys fs else
    match apart E f.type xs f.offset, apart E f.type ys f.offset with
    | some a, some b => match eq f.type a b with
      | some true => aeqFields E eq xs ys fs
      | some false => some false
      | none => none
    | _, _ => none
def aeqItems (E : Env) (eq : Nat → Value → Value → Option Bool) (el sz : Nat) (xs ys : List Value) : List Nat → Option Bool
  | [] => some true
  | i :: l => match apart E el xs (i * sz), apart E el ys (i * sz) with
    | some a, some b => match eq el a b with
      | some true => aeqItems E eq el sz xs ys l
      | some false => some false
      | none => none
    | _, _ => none
def aeq (E : Env) (Q : Eqs) : Nat → Nat → Value → Value → Option Bool
  | 0, _, _, _ => none
  | d + 1, t, x, y => match E.und t with
    | none => none
    | some ds => match ds, x, y with
      | .bool, .bool a, .bool b => some (a == b)
      | .int _, .int k a, .int k' b => if k = k' then some (a == b) else none
      | .string, .string a, .string b => some (beqBytes a b)
      | .pointer _, .pointer none, .pointer none => some true
      | .pointer _, .pointer none, .pointer (some _) => some false
      | .pointer _, .pointer (some _), .pointer none => some false
      | .pointer el, .pointer (some ⟨k, o, none⟩), .pointer (some ⟨j, p, none⟩) => match E.info el with
        | some i => bif Nat.beq i.size 0 then none else bif Nat.beq k j then some (Nat.beq o p) else none
        | none => none
      | .interface _, .nilIface, .nilIface => some true
      | .interface _, .nilIface, .iface _ _ => some false
      | .interface _, .iface _ _, .nilIface => some false
      | .interface _, .iface tx vx, .iface ty vy => bif Nat.beq tx ty then (match E.info tx with
        | some i => bif i.comparable then aeq E Q d tx vx vy else none
        | none => none) else some false
      | .struct fs, .agg xs, .agg ys => bif Q.ok t then aeqFields E (aeq E Q d) xs.toList ys.toList fs.toList else none
      | .array n el, .agg xs, .agg ys => match E.info el with
        | some i => aeqItems E (aeq E Q d) el i.size xs.toList ys.toList (List.range n)
        | none => none
      | .slice _, .slice none _ _, .slice none _ _ => some true
      | .slice _, .slice none _ _, .slice (some _) _ _ => some false
      | .slice _, .slice (some _) _ _, .slice none _ _ => some false
      | .map _ _, .map none, .map none => some true
      | .map _ _, .map none, .map (some _) => some false
      | .map _ _, .map (some _), .map none => some false
      | .func _ _ _, .nilFunc, .nilFunc => some true
      | .func _ _ _, .nilFunc, .func _ _ _ => some false
      | .func _ _ _, .func _ _ _, .nilFunc => some false
      | _, _, _ => none
theorem aeqFields_ok (hE : E.Ok P) {eq : Nat → Value → Value → Option Bool} {D : Nat} (heq : ∀ t x x' y y' b, VR μ x x' → VR μ y y' → eq t x y = some b → (Op.equalIn D t x' y').run P w = .ok b w) {xs xs' ys ys' : Array Value} (hx : AR μ xs xs') (hy : AR μ ys ys') :
    ∀ (fs : List Field) (b : Bool), aeqFields E eq xs.toList ys.toList fs = some b → (Op.eqFields D xs' ys' fs).run P w = .ok b w
  | [], b, e => by cases e; rfl
  | f :: fs, b, e => by
    simp only [aeqFields] at e
    cases hn : (f.name == "_") with
    | true =>
      rw [hn, cond_true] at e
      simp only [Op.eqFields]
      rw [if_neg (by simpa using hn)]
      exact aeqFields_ok hE heq hx hy fs b e
    | false =>
      rw [hn, cond_false] at e
      split at e
      · rename_i a c ha hc
        obtain ⟨a', r1, v1⟩ := apart_ok hE hx ha w
        obtain ⟨c', r2, v2⟩ := apart_ok hE hy hc w
        simp only [Op.eqFields]
        rw [if_pos (by simpa using hn)]
        split at e
        · rename_i he
          simp only [Sem.run_bind, r1, r2, Result.andThen_ok, heq _ _ _ _ _ _ v1 v2 he, Bool.not_true, Bool.false_eq_true, if_false]
          exact aeqFields_ok hE heq hx hy fs b e
        · rename_i he
          cases e
          simp only [Sem.run_bind, r1, r2, Result.andThen_ok, heq _ _ _ _ _ _ v1 v2 he, Bool.not_false, if_true, Sem.run_pure]
        · cases e
      · cases e
theorem aeqItems_ok (hE : E.Ok P) {eq : Nat → Value → Value → Option Bool} {D : Nat} (heq : ∀ t x x' y y' b, VR μ x x' → VR μ y y' → eq t x y = some b → (Op.equalIn D t x' y').run P w = .ok b w) {el sz : Nat} {xs xs' ys ys' : Array Value} (hx : AR μ xs xs') (hy : AR μ ys ys') :
    ∀ (l : List Nat) (b : Bool), aeqItems E eq el sz xs.toList ys.toList l = some b → (Op.eqItems D el sz xs' ys' l).run P w = .ok b w
  | [], b, e => by cases e; rfl
  | i :: l, b, e => by
    simp only [aeqItems] at e
    split at e
    · rename_i a c ha hc
      obtain ⟨a', r1, v1⟩ := apart_ok hE hx ha w
      obtain ⟨c', r2, v2⟩ := apart_ok hE hy hc w
      simp only [Op.eqItems]
      split at e
      · rename_i he
        simp only [Sem.run_bind, r1, r2, Result.andThen_ok, heq _ _ _ _ _ _ v1 v2 he, Bool.not_true, Bool.false_eq_true, if_false]
        first | exact aeqItems_ok hE heq hx hy l b e | (simp only [if_true]; exact aeqItems_ok hE heq hx hy l b e)
      · rename_i he
        cases e
        simp only [Sem.run_bind, r1, r2, Result.andThen_ok, heq _ _ _ _ _ _ v1 v2 he, Bool.not_false, if_true, Sem.run_pure]
        first | done | rfl | simp
      · cases e
    · cases e
theorem aeq_ok (hE : E.Ok P) (hQ : Q.Ok P) (h : Rel μ H w0 w) : ∀ (d t : Nat) (x x' y y' : Value) (b : Bool) (D : Nat), d ≤ D → VR μ x x' → VR μ y y' → aeq E Q d t x y = some b → (Op.equalIn D t x' y').run P w = .ok b w
  | 0, _, _, _, _, _, _, _, _, _, _, e => by simp [aeq] at e
  | d + 1, t, x, x', y, y', b, 0, hD, _, _, _ => by omega
  | d + 1, t, x, x', y, y', b, D + 1, hD, hx, hy, e => by
    have ih := aeq_ok hE hQ h d
    simp only [aeq] at e
    split at e
    · cases e
    · rename_i ds hu
      have hu' := hE.und _ _ hu
      split at e
      · cases hx; cases hy; cases e
        simp only [Op.equalIn, Sem.run_bind, run_und hE hu, Result.andThen_ok, Sem.run_pure]
      · cases hx; cases hy
        split at e
        · rename_i hk
          cases e
          simp only [Op.equalIn, Sem.run_bind, run_und hE hu, Result.andThen_ok, if_pos hk, Sem.run_pure]
        · cases e
      · cases hx; cases hy; cases e
        simp only [Op.equalIn, Sem.run_bind, run_und hE hu, Result.andThen_ok, Sem.run_pure, beqBytes_eq]
      · cases hx; cases hy; cases e
        simp only [Op.equalIn, Sem.run_bind, run_und hE hu, Result.andThen_ok, Sem.run_pure]; rfl
      · cases hx; cases hy; cases e
        simp only [Op.equalIn, Sem.run_bind, run_und hE hu, Result.andThen_ok, Sem.run_pure]; rfl
      · cases hx; cases hy; cases e
        simp only [Op.equalIn, Sem.run_bind, run_und hE hu, Result.andThen_ok, Sem.run_pure]
      · split at e
        · rename_i i hi
          cases hz : Nat.beq i.size 0 with
          | true => rw [hz] at e; cases e
          | false =>
            rw [hz, cond_false] at e
            have hne : i.size ≠ 0 := fun e' => by rw [e'] at hz; cases hz
            cases hx with
            | @ptr k g s o hm =>
              cases hy with
              | @ptr j g2 s2 p hm2 =>
                rename_i el k o j p _
                cases hk : Nat.beq k j with
                | false => rw [hk] at e; cases e
                | true =>
                  rw [hk, cond_true] at e
                  cases e
                  have := Nat.eq_of_beq_eq_true hk
                  subst this
                  rw [hm] at hm2
                  cases hm2
                  simp only [Op.equalIn, Sem.run_bind, run_und hE hu, Result.andThen_ok, run_size hE hi]
                  rw [if_pos hne]
                  simp only [sameAddr, beq_self_eq_true, if_true, Sem.run_pure]
                  congr 1
                  cases hb : Nat.beq o p with
                  | true => have := Nat.eq_of_beq_eq_true hb; subst this; simp
                  | false =>
                    have : o ≠ p := fun e' => by subst e'; simp at hb
                    rw [beq_eq_false_iff_ne]
                    intro e'
                    injection e' with _ e'
                    exact this e'
        · cases e
      · cases hx; cases hy; cases e
        simp only [Op.equalIn, Sem.run_bind, run_und hE hu, Result.andThen_ok, Sem.run_pure]
      · cases hx; cases hy; cases e
        simp only [Op.equalIn, Sem.run_bind, run_und hE hu, Result.andThen_ok, Sem.run_pure]
      · cases hx; cases hy; cases e
        simp only [Op.equalIn, Sem.run_bind, run_und hE hu, Result.andThen_ok, Sem.run_pure]
      · rename_i tx vx ty vy
        cases hx with
        | iface t1 hvx =>
          cases hy with
          | iface t2 hvy =>
            cases ht : Nat.beq tx ty with
            | false =>
              rw [ht, cond_false] at e
              cases e
              have : tx ≠ ty := fun e' => by subst e'; simp at ht
              simp only [Op.equalIn, Sem.run_bind, run_und hE hu, Result.andThen_ok]
              rw [if_pos this]; rfl
            | true =>
              rw [ht, cond_true] at e
              have := Nat.eq_of_beq_eq_true ht
              subst this
              split at e
              · rename_i i hi
                cases hc : i.comparable with
                | false => rw [hc] at e; cases e
                | true =>
                  rw [hc, cond_true] at e
                  simp only [Op.equalIn, Sem.run_bind, run_und hE hu, Result.andThen_ok]
                  rw [if_neg (by simp)]
                  simp only [Sem.run_bind, run_info hE hi, Result.andThen_ok, hc, Bool.not_true, Bool.false_eq_true, if_false]
                  exact ih _ _ _ _ _ _ D (by omega) hvx hvy e
              · cases e
      · rename_i fs xs ys
        cases ho : Q.ok t with
        | false => rw [ho] at e; cases e
        | true =>
          rw [ho, cond_true] at e
          have hf : P.fieldsOf t = fs := by simp [Program.fieldsOf, hu']
          cases hx with
          | agg h1 h2 =>
            cases hy with
            | agg h3 h4 =>
              rw [run_equalIn_struct w D t _ _ (by rw [hf]; exact hu') (hQ.held t ho), hf]
              exact aeqFields_ok hE (fun t x x' y y' b hx hy e => ih t x x' y y' b D (by omega) hx hy e) ⟨h1, h2⟩ ⟨h3, h4⟩ fs.toList b e
      · split at e
        · rename_i i hi
          cases hx with
          | agg h1 h2 =>
            cases hy with
            | agg h3 h4 =>
              have hsz := congrArg (fun x => ((x.map TypeInfo.size).getD 0)) (hE.info _ _ hi)
              have hsz : P.cellsOf _ = i.size := hsz
              rw [run_equalIn_array w D _ _ hu' (hE.info _ _ hi), hsz]
              exact aeqItems_ok hE (fun t x x' y y' b hx hy e => ih t x x' y y' b D (by omega) hx hy e) ⟨h1, h2⟩ ⟨h3, h4⟩ _ b e
        · cases e
      · cases hx; cases hy; cases e
        simp only [Op.equalIn, Sem.run_bind, run_und hE hu, Result.andThen_ok, Sem.run_pure]; rfl
      · cases hx; cases e
        cases hy <;> (simp only [Op.equalIn, Sem.run_bind, run_und hE hu, Result.andThen_ok, Sem.run_pure]; rfl)
      · cases hy; cases e
        cases hx <;> simp only [Op.equalIn, Sem.run_bind, run_und hE hu, Result.andThen_ok, Sem.run_pure]
      · cases hx; cases hy; cases e
        simp only [Op.equalIn, Sem.run_bind, run_und hE hu, Result.andThen_ok, Sem.run_pure]; rfl
      · cases hx; cases hy; cases e
        simp only [Op.equalIn, Sem.run_bind, run_und hE hu, Result.andThen_ok, Sem.run_pure]; rfl
      · cases hx; cases hy; cases e
        simp only [Op.equalIn, Sem.run_bind, run_und hE hu, Result.andThen_ok, Sem.run_pure]
      · cases hx; cases hy; cases e
        simp only [Op.equalIn, Sem.run_bind, run_und hE hu, Result.andThen_ok, Sem.run_pure]
      · cases hx; cases e
        cases hy <;> simp only [Op.equalIn, Sem.run_bind, run_und hE hu, Result.andThen_ok, Sem.run_pure]
      · cases hy; cases e
        cases hx <;> simp only [Op.equalIn, Sem.run_bind, run_und hE hu, Result.andThen_ok, Sem.run_pure]
      · cases e
end
end AM
end Go.Proofs.YtccnkkffeokgcaaGreatDoor
