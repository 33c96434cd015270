/-
  The abstract machine: the operations of a statement whose order is drawn: they end as was computed. No condition.
  The abstract machine: statements, and code but for ranges over functions. No condition.
  The abstract machine: code. No condition.
-/
import Derived.Test.YtoicnghjjgkebaaGreatDoorV23
import Derived.LoopNIn
import Derived.RangeFuncRecord
set_option linter.unusedSectionVars false
set_option linter.unusedSimpArgs false
set_option linter.unusedVariables false
set_option linter.unnecessarySimpa false
namespace Go.Proofs.YtoicnghjjgkebaaGreatDoor
namespace AM
open Go.RowKit
variable [Toks]

section
variable {P : Program} {E : Env} {Q : Eqs} {call : ACall} {round : ARound} {n : Nat}
theorem chain_mask {A : Nat → Nat} {m' u' : Nat} {H' : AH} : ∀ (R : List DEff) (m u : Nat) (H : AH), Chain A m u H R m' u' H' → ∀ j, m'.testBit j = true → m.testBit j = true ∨ ∃ e ∈ R, e.i = j
  | [], m, u, H, h, j, hj => .inl (by rw [h.1]; exact hj)
  | e :: R, m, u, H, h, j, hj => by
    rcases chain_mask R _ _ _ h.2.2.2 j hj with h1 | ⟨e', h1, h2⟩
    · rw [Nat.testBit_or, Nat.testBit_two_pow, Bool.or_eq_true] at h1
      rcases h1 with h1 | h1
      · exact .inl h1
      · exact .inr ⟨e, by simp, by simpa using h1⟩
    · exact .inr ⟨e', by simp [h1], h2⟩
/-- What is known of a statement. -/
structure Drawn (P : Program) (E : Env) (Q : Eqs) (call : ACall) (round : ARound) (n : Nat) (all : List Oper) (dx : Tri Nat) (T0 : Nat → Option Value) (N0 : Nat) (out : DOut) : Prop where
  own : ∀ k o d, all[k]? = some o → o.dst = some d → d < n ∧ dx.get d = some k
  rev : ∀ t k, dx.get t = some k → ∃ o, all[k]? = some o ∧ o.dst = some t
  ops : ∀ k o, all[k]? = some o → OpFact P E Q call round all dx T0 N0 out.A out.T.get out.effs out.L k o
  effs : ∀ e ∈ out.effs, EffFact P E Q call round all dx T0 N0 out.A out.T.get e
  pair : out.effs.Pairwise fun e' e => (out.A e.i).testBit e'.i = true
  keys : ∀ x ∈ out.L, ∃ o, all[x.1]? = some o ∧ awant all (sf dx out.A x.1 T0 out.T.get) o = some true ∧ isAlloc o.op = true
  reads : ∀ k o, all[k]? = some o → isReader E o.op = true → awant all (sf dx out.A k T0 out.T.get) o = some true → ∀ m u H, (m, u, H) ∈ out.effs.map (fun e => (e.before, e.ups, e.H)) ++ [(out.before, out.ups, out.H)] → (out.A k &&& out.before) ||| m = m → u.testBit k = false →
      ∃ v K, aoper1 P E Q call round (sf dx out.A k T0 out.T.get) H o = some (v, K) ∧ PutIn out.T.get o v
  dist : out.L.Pairwise fun x y => x.1 ≠ y.1
def listedS (listed : Array Bool) (k : Nat) : Prop := listed.getD k false = true
theorem listedS_set {listed : Array Bool} {i : Nat} (hi : i < listed.size) : listedS (listed.setIfInBounds i true) = fun k => listedS listed k ∨ k = i := by
  funext k
  unfold listedS
  rw [Array.getD_eq_getD_getElem?, Array.getD_eq_getD_getElem?, Array.getElem?_setIfInBounds]
  apply propext
  by_cases e : i = k
  · subst e; simp [hi]
  · rw [if_neg e]
    exact ⟨.inl, fun h => h.resolve_right (fun e' => e e'.symm)⟩
theorem adraw_any (hE : E.Ok P) (hQ : Q.Ok P) (hC : CallOk P call) (hR : RoundOk P round) {ops : Array Oper} {dx : Tri Nat} {T0 : Nat → Option Value} {N0 : Nat} {out : DOut} (hF : Drawn P E Q call round n ops.toList dx T0 N0 out) {b0 : Base} {μ0 : Mp} (hμ0 : μ0.N ≤ N0) {D : List Deferred} {r : Option Nat} {mm : Nat} {Qx : Exit → Act → World → Prop}
    (hk : ∀ ν a' w', μ0.le ν → St ν (adopt N0 out.H out.pend) out.T n D b0 a' w' → Qx .normal a' w') : ∀ (fuel : Nat) (listed : Array Bool) (a : Act) (w : World), listed.size = ops.size → listed.toList.count false ≤ fuel →
    (∃ μ m u Hc R b, Mem ops.toList N0 out b0 μ0 (listedS listed) μ m u Hc R b w ∧ Slots ops.toList dx T0 out.T.get n D (listedS listed) μ a) → wpAnyIn (fw r) mm P .any ops Qx fuel listed a w := by
  have size : ops.toList.length = ops.size := by simp
  have fin : ∀ (listed : Array Bool) (a : Act) (w : World), (∀ k, k < ops.size → listedS listed k) → (∃ μ m u Hc R b, Mem ops.toList N0 out b0 μ0 (listedS listed) μ m u Hc R b w ∧ Slots ops.toList dx T0 out.T.get n D (listedS listed) μ a) → Qx .normal a w := by
    rintro listed a w hall ⟨μ, m, u, Hc, R, b, hM, hS⟩
    have hR0 : R = [] := by
      cases R with
      | nil => rfl
      | cons e R =>
        obtain ⟨l, hl⟩ := hM.suff
        obtain ⟨⟨o, ho, _⟩, _⟩ := hF.effs e (by rw [hl]; simp)
        exact absurd (hall e.i (by rw [← size]; exact (List.getElem?_eq_some_iff.1 ho).1)) (hM.fresh e (by simp))
    subst hR0
    obtain ⟨_, _, rfl⟩ := hM.chain
    have hsub : ∀ x ∈ out.pend, x ∈ out.L := fun x hx => List.mem_append.2 (.inr hx)
    have hlt : ∀ x ∈ out.pend, x.1 < ops.size := fun x hx => by
      obtain ⟨o, ho, _⟩ := hF.keys x (hsub x hx)
      rw [← size]; exact (List.getElem?_eq_some_iff.1 ho).1
    have hpl : plOf out [] = out.pend := rfl
    obtain ⟨b', h1, h2, _, _⟩ := adopt_list (K := N0 + ops.size) out.pend [] out.H b hM.rel hM.under (by have := hM.next; omega) (fun x hx => by have := hlt x hx; omega)
      (fun x hx => hM.held x (by rw [hpl]; exact hx) (hall _ (hlt x hx))) (by rw [List.append_nil]; exact (List.pairwise_append.1 hF.dist).2.1) (listedS listed) (fun x hx => hall _ (hlt x hx)) (fun x hx => by simp at hx)
      (by rw [List.append_nil]; exact hM.apart)
    refine hk μ a w hM.le ⟨h1.back h2, fun t v hv => ?_, hS.size, hS.defers⟩
    cases hd : dx.get t with
    | none => exact hS.outer t v hd hv
    | some k =>
      obtain ⟨o, h3, h4⟩ := hF.rev t k hd
      exact hS.slots k o t v (hall k (by rw [← size]; exact (List.getElem?_eq_some_iff.1 h3).1)) h3 h4 hv
  intro fuel
  induction fuel with
  | zero =>
    intro listed a w hsz hc hM
    have hall : ∀ k, k < ops.size → listedS listed k := fun k hk' => by
      have h0 : listed.toList.count false = 0 := by omega
      have h1 := List.count_eq_zero.1 h0
      have hk'' : k < listed.size := by omega
      unfold listedS
      rw [Array.getD_eq_getD_getElem?, Array.getElem?_eq_getElem hk'']
      cases hb : listed[k] with
      | true => rfl
      | false => exact absurd (by rw [← hb]; simp) h1
    refine ⟨?_, fin listed a w hall hM⟩
    rw [List.eq_nil_iff_forall_not_mem]
    intro j hj
    obtain ⟨h1, o, h2, _⟩ := mem_ready.1 hj
    have hj' : j < ops.size := (Array.getElem?_eq_some_iff.1 h2).1
    have := hall j hj'
    unfold listedS at this
    rw [Array.getD_eq_getD_getElem?, Array.getElem?_eq_getElem (by omega)] at h1 this
    rw [Option.getD_some] at h1 this
    rw [h1] at this; cases this
  | succ fuel ih =>
    intro listed a w hsz hc hM
    refine ⟨fun hnil => fin listed a w ?_ hM, fun i hi => ?_⟩
    · intro k
      induction k using Nat.strongRecOn with
      | _ k ihk =>
        intro hk'
        rcases Classical.em (listedS listed k) with h | h
        · exact h
        · have hk2 : k < listed.size := by omega
          have : k ∈ Region.ready .any ops listed := mem_ready.2 ⟨by
            unfold listedS at h
            rw [Array.getD_eq_getD_getElem?, Array.getElem?_eq_getElem hk2] at h ⊢
            simpa using h, ops[k], Array.getElem?_eq_getElem hk', fun e he hb => by
            have hlt := (hF.ops k ops[k] (by simp [hk'])).edges e he hb
            exact ihk e.on hlt (by omega)⟩
          rw [hnil] at this; simp at this
    · obtain ⟨μ, m, u, Hc, R, b, hM, hS⟩ := hM
      obtain ⟨h1, o, ho, hedge⟩ := mem_ready.1 hi
      have hi' : i < ops.size := (Array.getElem?_eq_some_iff.1 ho).1
      have hil : i < listed.size := by omega
      have hoL : ops.toList[i]? = some o := by simpa using ho
      have hnS : ¬ listedS listed i := by
        unfold listedS
        rw [Array.getD_eq_getD_getElem?, Array.getElem?_eq_getElem hil] at h1 ⊢
        simpa using h1
      have F := hF.ops i o hoL
      have hanc : ∀ j, (out.A i).testBit j = true → listedS listed j := fun j hj => by
        obtain ⟨e, h2, h3, h4⟩ := F.anc j hj
        rcases h4 with rfl | h4
        · exact hedge e h2 h3
        · exact hM.edges e.on (hedge e h2 h3) j h4
      have hT : TR μ (sf dx out.A i T0 out.T.get) a.tmps := hS.tr hF.rev hanc (fun k h2 h3 => hnS (hM.edges k h3 i h2))
      have hcnt : (listed.setIfInBounds i true).toList.count false ≤ fuel := by
        have hb : listed[i] = false := by
          rw [Array.getD_eq_getD_getElem?, Array.getElem?_eq_getElem hil] at h1
          simpa using h1
        rw [Array.toList_setIfInBounds, List.count_set (by simpa using hil)]
        have hpos : 0 < listed.toList.count false := List.count_pos_iff.2 (by rw [← hb]; simp)
        rw [Array.getElem_toList, hb]
        simp only [beq_self_eq_true, if_true, show (true == false) = false from rfl, Bool.false_eq_true, if_false]
        omega
      have nxt : ∀ ν a' w', (∃ m u Hc R b, Mem ops.toList N0 out b0 μ0 (fun k => listedS listed k ∨ k = i) ν m u Hc R b w') → Slots ops.toList dx T0 out.T.get n D (fun k => listedS listed k ∨ k = i) ν a' → wpAnyIn (fw r) mm P .any ops Qx fuel (listed.setIfInBounds i true) a' w' := by
        rintro ν a' w' ⟨m, u, Hc, R, b, g1⟩ g2
        refine ih _ a' w' (by simpa using hsz) hcnt ⟨ν, m, u, Hc, R, b, ?_, ?_⟩
        · rw [listedS_set hil]; exact g1
        · rw [listedS_set hil]; exact g2
      obtain ⟨pre, hpre⟩ := hM.suff
      have plL : ∀ x ∈ plOf out R, x ∈ out.L := fun x hx => by
        unfold DOut.L
        rw [hpre, List.flatMap_append, List.append_assoc]
        exact List.mem_append.2 (.inr hx)
      have plD : (plOf out R).Pairwise fun x y => x.1 ≠ y.1 := by
        have := hF.dist
        unfold DOut.L at this
        rw [hpre, List.flatMap_append, List.append_assoc] at this
        exact (List.pairwise_append.1 this).2.1
      have noKey : (awant ops.toList (sf dx out.A i T0 out.T.get) o = some true → isAlloc o.op = false) → ∀ x ∈ plOf out R, x.1 ≠ i := fun h x hx e => by
        obtain ⟨o', h2, h3, h4⟩ := hF.keys x (plL x hx)
        rw [e, hoL] at h2; cases h2
        rw [e] at h3
        rw [h h3] at h4; cases h4
      have noEff : (awant ops.toList (sf dx out.A i T0 out.T.get) o = some true → isAlloc o.op = false → (isPure o.op || isReader E o.op) = false → False) → ∀ e ∈ R, e.i ≠ i := fun h e he ei => by
        obtain ⟨⟨o', h2, h3, h4, h5, _⟩, _⟩ := hF.effs e (by rw [hpre]; exact List.mem_append.2 (.inr he))
        rw [ei, hoL] at h2; cases h2
        rw [ei] at h3
        exact h h3 h4 h5
      unfold wpOpIn
      rw [ho]
      dsimp only
      rcases F.kind with ⟨hw, hput⟩ | ⟨hw, hal, v, c, hv, hput, hL⟩ | ⟨hw, hal, hfl, v, H, K, hv, hput⟩ | ⟨e, he, hei⟩
      · rw [if_neg (by rw [awant_ok hT hw]; decide)]
        refine ⟨fun _ _ => trivial, nxt μ _ _ ⟨m, u, Hc, R, b, hM.more hanc (noKey fun h => by rw [hw] at h; cases h) (noEff fun h => by rw [hw] at h; cases h)⟩ (hS.put hF.own hoL hnS (cval_ok μ 3 undef rfl) hput)⟩
      · rw [if_pos (awant_ok hT hw)]
        obtain ⟨q1, q2, ob, s, v', q3, q4, q5⟩ := aallocB_ok (w := w) hE hT hv
        refine ⟨fun _ _ => trivial, ?_⟩
        rw [Oper.semAt_eq _ _ _ q2, q3]
        obtain ⟨ν, b', n1, n2, n3⟩ := hM.lay plD hμ0 (by rw [size]; exact hi') hanc hnS (c := c) (by
          unfold DOut.L at hL
          rw [hpre, List.flatMap_append, List.append_assoc] at hL
          rcases List.mem_append.1 hL with hL | hL
          · obtain ⟨e, he, hx⟩ := List.mem_flatMap.1 hL
            have heL : e ∈ out.effs := by rw [hpre]; exact List.mem_append.2 (.inl he)
            rcases hM.done e heL with h5 | h5
            · exact absurd (hM.edges _ h5 _ ((hF.effs e heL).ad _ hx)) hnS
            · have := (List.pairwise_append.1 (hpre ▸ hF.pair)).2.2 e he e h5
              exact absurd ((hF.ops e.i _ (hF.effs e heL).op.choose_spec.1).low _ this) (Nat.lt_irrefl _)
          · exact hL) (noEff fun h h2 => by rw [hal] at h2; cases h2) q4 q1
        exact nxt ν _ _ ⟨m, u, Hc, R, b', n3⟩ ((hS.mono n1).put hF.own hoL hnS (q5 ν n2) hput)
      · rw [if_pos (awant_ok hT hw)]
        have key : ∃ v, aoper1 P E Q call round (sf dx out.A i T0 out.T.get) Hc o = some (v, Hc) ∧ PutIn out.T.get o v := by
          cases hp : isPure o.op with
          | true => exact ⟨v, aoper_pure hp hv, hput⟩
          | false =>
            rw [hp, Bool.false_or] at hfl
            obtain ⟨v2, K2, g1, g2⟩ := hF.reads i o hoL hfl hw m u Hc (by
              cases R with
              | nil =>
                obtain ⟨rfl, rfl, rfl⟩ := hM.chain
                simp
              | cons e R =>
                obtain ⟨rfl, rfl, rfl, _⟩ := hM.chain
                rw [hpre]
                simp) (by
              apply Nat.eq_of_testBit_eq
              intro j
              rw [Nat.testBit_or, Nat.testBit_and]
              cases h2 : m.testBit j with
              | true => rw [Bool.or_true]
              | false =>
                rw [Bool.or_false]
                cases h3 : (out.A i).testBit j with
                | false => rfl
                | true =>
                  rw [Bool.true_and]
                  cases h4 : out.before.testBit j with
                  | false => rfl
                  | true =>
                    rcases chain_mask R _ _ _ hM.chain j h4 with h5 | ⟨e, h5, h6⟩
                    · rw [h2] at h5; exact h5.symm
                    · exact absurd (h6 ▸ hanc j h3) (hM.fresh e h5)) (by
              cases h2 : u.testBit i with
              | false => rfl
              | true => exact absurd (hM.ups i h2) hnS)
            have := aoper_same hfl g1
            subst this
            exact ⟨v2, g1, g2⟩
        obtain ⟨v2, g1, g2⟩ := key
        refine aoper1_ok hE hQ hC hR hM.rel hT g1 ?_
        intro ν v' w' hle hrel hvr
        exact nxt ν _ _ ⟨m, u, Hc, R, b, (hM.world hle hrel).more hanc (noKey fun _ => hal) (noEff fun _ _ h => by rw [hfl] at h; cases h)⟩ ((hS.mono hle.sub).put hF.own hoL hnS hvr g2)
      · have heR : e ∈ R := (hM.done e he).resolve_left (by rw [hei]; exact hnS)
        cases R with
        | nil => simp at heR
        | cons e0 R =>
          have hpR := (List.pairwise_append.1 (hpre ▸ hF.pair)).2.1
          have : e = e0 := by
            rcases List.mem_cons.1 heR with h2 | h2
            · exact h2
            · have h3 := (List.pairwise_cons.1 hpR).1 e h2
              rw [hei] at h3
              exact absurd (hanc _ h3) (hM.fresh e0 (by simp))
          subst this
          obtain ⟨⟨o', k1, k2, k3, k4, v, k5, k6⟩, kad⟩ := hF.effs e he
          rw [hei] at k1 k2 k5 kad
          rw [hoL] at k1; cases k1
          rw [if_pos (awant_ok hT k2)]
          obtain ⟨c1, c2, c3, c4⟩ := hM.chain
          have hpl : plOf out (e :: R) = e.ad ++ plOf out R := by unfold plOf; rw [List.flatMap_cons, List.append_assoc]
          have hlt : ∀ x ∈ e.ad, x.1 < ops.size := fun x hx => by
            obtain ⟨o', h2, _⟩ := hF.keys x (plL x (by rw [hpl]; exact List.mem_append.2 (.inl hx)))
            rw [← size]; exact (List.getElem?_eq_some_iff.1 h2).1
          obtain ⟨b', r1, r2, r3, r4⟩ := adopt_list (K := N0 + ops.size) e.ad (plOf out R) Hc b hM.rel hM.under (by have := hM.next; omega) (fun x hx => by have := hlt x hx; omega)
            (fun x hx => hM.held x (by rw [hpl]; exact List.mem_append.2 (.inl hx)) (hanc _ (kad x hx))) (by rw [← hpl]; exact plD) (listedS listed) (fun x hx => hanc _ (kad x hx)) (fun x hx => hM.held x (by rw [hpl]; exact List.mem_append.2 (.inr hx)))
            (by rw [← hpl]; exact hM.apart)
          rw [c3] at k5
          refine aoper1_ok hE hQ hC hR r1 hT k5 ?_
          intro ν v' w' hle hrel hvr
          have hanx : e.H'.next = e.H'.next := rfl
          have hN : N0 + ops.toList.length ≤ e.H'.next := by
            have h2 := hle.1
            rw [r1.num, hrel.num, r3] at h2
            exact Nat.le_trans hM.next h2
          refine nxt ν _ _ ⟨m ||| 2 ^ e.i, u ||| out.A e.i, e.H', R, b', hrel, r2, hM.le.trans hle, hN, c4, ⟨pre ++ [e], by rw [hpre]; simp⟩, fun f hf => ?_, fun f hf hS' => ?_, fun k hk' => ?_, fun k hk' j hj => ?_, fun k hk' hS' => ?_, fun x hx hSx => ?_, fun x hx y hy hSx hSy hne g s g' s' e1 e2 => ?_⟩ ((hS.mono hle.sub).put hF.own hoL hnS hvr k6)
          · rcases hM.done f hf with h2 | h2
            · exact .inl (.inl h2)
            · rcases List.mem_cons.1 h2 with rfl | h2
              · exact .inl (.inr hei)
              · exact .inr h2
          · rcases hS' with h2 | h2
            · exact hM.fresh f (by simp [hf]) h2
            · have h3 := (List.pairwise_cons.1 hpR).1 f hf
              rw [h2] at h3
              have := (hF.ops i o hoL).low _ h3
              omega
          · rw [Nat.testBit_or, Bool.or_eq_true] at hk'
            rcases hk' with h2 | h2
            · exact .inl (hM.ups k h2)
            · rw [hei] at h2; exact .inl (hanc k h2)
          · rcases hk' with h2 | rfl
            · exact .inl (hM.edges k h2 j hj)
            · exact .inl (hanc j hj)
          · rw [hle.2 _ (by rw [r1.num, r3]; have := hM.next; omega)]
            exact hM.unm k hk' (fun h2 => hS' (.inl h2))
          · have hxi : x.1 ≠ i := noKey (fun _ => k3) x (by rw [hpl]; exact List.mem_append.2 (.inr hx))
            exact (r4 x hx (hSx.resolve_right hxi)).world hle.sub fun g hg => by rw [hrel.keep g hg, r1.keep g hg]
          · have hx' := noKey (fun _ => k3) x (by rw [hpl]; exact List.mem_append.2 (.inr hx))
            have hy' := noKey (fun _ => k3) y (by rw [hpl]; exact List.mem_append.2 (.inr hy))
            obtain ⟨g1, s1, _, f1, _⟩ := r4 x hx (hSx.resolve_right hx')
            obtain ⟨g2, s2, _, f2, _⟩ := r4 y hy (hSy.resolve_right hy')
            rw [hle.sub _ _ f1] at e1; cases e1
            rw [hle.sub _ _ f2] at e2; cases e2
            exact hM.apart x (by rw [hpl]; exact List.mem_append.2 (.inr hx)) y (by rw [hpl]; exact List.mem_append.2 (.inr hy)) (hSx.resolve_right hx') (hSy.resolve_right hy') hne _ _ _ _ f1 f2
end
end AM
end Go.Proofs.YtoicnghjjgkebaaGreatDoor
namespace Go.Proofs.YtoicnghjjgkebaaGreatDoor
namespace AM
open Go.RowKit
variable [Toks]

section
variable {P : Program} {E : Env} {Q : Eqs} {call : ACall} {round : ARound} {n : Nat}
theorem Rel.wide {μ : Mp} {H : AH} {b : Base} {w : World} (h : Rel μ H b w) (k : Nat) (hn : H.next + k < 2 ^ 40) : ∃ ν : Mp, μ.le ν ∧ (∀ j, ν j = μ j) ∧ Rel ν ⟨H.t, H.next + k⟩ b w := by
  let ν : Mp := ⟨μ.f, H.next + k, fun j hj => μ.wf j (by rw [h.num]; omega), μ.gl⟩
  have hs : μ.sub ν := fun _ _ e => e
  refine ⟨ν, ⟨by show μ.N ≤ H.next + k; rw [h.num]; omega, fun _ _ => rfl⟩, fun _ => rfl, ?_⟩
  exact ⟨h.os, h.tape, h.output, h.size, h.keep, hn, rfl, fun j c hj => let ⟨g, s, h1, h2, h3⟩ := h.lies j c hj; ⟨g, s, h1, fun hl => let ⟨o, h4, h5⟩ := h2 hl; ⟨o, h4, h5.monoS hs⟩, h3⟩, h.apart, h.ro⟩
theorem adraw_ok (hE : E.Ok P) (hQ : Q.Ok P) (hC : CallOk P call) (hR : RoundOk P round) (hm : P.follows .mixedOrders = true) {id : Nat} {ops : Array Oper} {T T' : Tri Value} {H H' : AH} (e : adraw P E Q call round n ops.toList T H = some (T', H')) {b0 : Base} {μ : Mp} {D : List Deferred} {a : Act} {w : World} (hs : St μ H T n D b0 a w) {r : Option Nat} {mm : Nat} {Qx : Exit → Act → World → Prop}
    (hk : ∀ ν a' w', μ.le ν → St ν H' T' n D b0 a' w' → Qx .normal a' w') : (Code.region id ops true).wpIn (fw r) mm P Qx a w := by
  unfold adraw at e
  cases hc : (dxOk (dxOf ops.toList 0 .nil) n ops.toList 0 && Nat.blt (H.next + ops.toList.length) 1099511627776 && Nat.blt n 1048575) with
  | false => rw [hc] at e; cases e
  | true =>
    rw [hc, cond_true] at e
    simp only [Bool.and_eq_true] at hc
    obtain ⟨⟨c1, c2⟩, c3⟩ := hc
    have c2 : H.next + ops.toList.length < 1099511627776 := Nat.le_of_ble_eq_true c2
    have c3 : n < 1048575 := Nat.le_of_ble_eq_true c3
    split at e
    · rename_i out hout
      cases hc : (eqNats out.ancs (ancsOf ops.toList []) && passB P E Q call round ops.toList (dxOf ops.toList 0 .nil) (out.effs.map (fun e => (e.before, e.ups, e.H)) ++ [(out.before, out.ups, out.H)]) out.before out.ancs T out.T ops.toList 0 && distinctB (out.effs.flatMap (·.ad) ++ out.pend)) with
      | false => rw [hc] at e; cases e
      | true =>
        rw [hc, cond_true] at e
        rw [Bool.and_eq_true, Bool.and_eq_true] at hc
        cases e
        have hA : ∀ j, (ancsOf ops.toList []).getD j 0 = out.A j := fun j => by rw [← eqNats_ok _ _ hc.1.1]; rfl
        have own := fun k o d => dxOk_ok (all := ops.toList) (dx := dxOf ops.toList 0 .nil) (n := n) ops.toList 0 rfl c1 k o d (Nat.zero_le k)
        have hP := passA_ok (fun k o d h1 h2 => (own k o d h1 h2).2) ops.toList 0 [] 0 0 [] T ⟨H.t, H.next + ops.toList.length⟩ out hA (T0 := T.get) (fun _ _ _ _ => rfl) rfl rfl (fun j b h => by simp at h) hout
        have hF : Drawn P E Q call round n ops.toList (dxOf ops.toList 0 .nil) T.get H.next out := by
          refine ⟨own, fun t k h => ?_, fun k o ho => hP.ops k o (Nat.zero_le k) ho, fun e he => (hP.effs e he).2.1, hP.pair, fun x hx => (hP.keys x hx).resolve_left (by simp), fun k o ho hr hw m u H1 h1 h2 h3 => ?_, distinctB_ok _ hc.2⟩
          · rcases dxOf_ok c3 ops.toList 0 .nil (fun o ho d hd => by
              obtain ⟨k, hk, he⟩ := List.getElem_of_mem ho
              exact (own k o d (by rw [List.getElem?_eq_getElem hk, he]) hd).1) t k h with h | ⟨o, _, h2, h3⟩
            · cases h
            · exact ⟨o, by simpa using h2, h3⟩
          · exact passB_ok ops.toList 0 rfl hc.1.2 k o (Nat.zero_le k) ho hr hw m u H1 h1 h2 h3
        obtain ⟨ν0, v1, v2, v3⟩ := hs.rel.drew.wide ops.toList.length (by omega)
        refine wpIn_region_any hm (adraw_any hE hQ hC hR hF (b0 := b0) (μ0 := μ) (D := D) (Nat.le_of_eq hs.rel.num) hk ops.size _ a _ (by simp) (by simp) ⟨ν0, 0, 0, _, out.effs, b0, ⟨v3, .refl b0, v1, Nat.le_refl _, hP.chain, ⟨[], rfl⟩, fun e he => .inr he, fun e he h => ?_, fun k h => by simp at h, fun k h => ?_, fun k hk _ => ?_, fun x _ h => ?_, fun x _ y _ h => ?_⟩, ⟨hs.size, hs.defers, fun t v ht hv => ?_, fun k o t v h => ?_, fun k t v _ _ hv => ?_⟩⟩)
        · have : ∀ k, ¬ listedS (Array.replicate ops.size false) k := fun k h => by
            unfold listedS at h
            rw [Array.getD_eq_getD_getElem?, Array.getElem?_replicate] at h
            split at h <;> simp at h
          exact this _ h
        · exact absurd h (by unfold listedS; rw [Array.getD_eq_getD_getElem?, Array.getElem?_replicate]; split <;> simp)
        · rw [v2]; exact μ.wf _ (by rw [hs.rel.num]; omega)
        · exact absurd h (by unfold listedS; rw [Array.getD_eq_getD_getElem?, Array.getElem?_replicate]; split <;> simp)
        · exact absurd h (by unfold listedS; rw [Array.getD_eq_getD_getElem?, Array.getElem?_replicate]; split <;> simp)
        · rw [hP.slots t (.inl ht)] at hv
          obtain ⟨v', q1, q2⟩ := hs.tmps t v hv
          exact ⟨v', q1, q2.mono v1⟩
        · exact absurd h (by unfold listedS; rw [Array.getD_eq_getD_getElem?, Array.getElem?_replicate]; split <;> simp)
        · obtain ⟨v', q1, q2⟩ := hs.tmps t v hv
          exact ⟨v', q1, q2.mono v1⟩
    · cases e
/-- How a piece of code ends. -/
inductive AX where
  | normal
  | exit (id : Nat)
  | ret
def AX.exitOf : AX → Exit
  | .normal => .normal
  | .exit id => .exit id
  | .ret => .ret
/-- Marks of blocks for deferred calls. -/
def MkR (μ : Mp) : List Nat → List Deferred → Prop
  | [], [] => True
  | k :: M, d :: D => (∃ g z, μ k = some (g, z) ∧ d = { target := .collected g, args := #[] }) ∧ MkR μ M D
  | _, _ => False
theorem MkR.mono {μ ν : Mp} (h : μ.le ν) : ∀ {M : List Nat} {D : List Deferred}, MkR μ M D → MkR ν M D
  | [], [], _ => trivial
  | k :: M, d :: D, ⟨⟨g, z, h1, h2⟩, h3⟩ => ⟨⟨g, z, h.sub _ _ h1, h2⟩, h3.mono h⟩
  | [], _ :: _, h => h.elim
  | _ :: _, [], h => h.elim
def RD (μ : Mp) : Option Nat → Option Nat → Prop
  | none, none => True
  | some l, some g => ∃ z, μ l = some (g, z)
  | _, _ => False
theorem RD.mono {μ ν : Mp} (h : μ.le ν) : ∀ {x y : Option Nat}, RD μ x y → RD ν x y
  | none, none, _ => trivial
  | some l, some g, ⟨z, h1⟩ => ⟨z, h.sub _ _ h1⟩
  | none, some _, h => h.elim
  | some _, none, h => h.elim
abbrev AS := Tri Value × AH × List Nat
abbrev AOuts := List (AX × AS)
def aloop (body : Tri Value → AH → List Nat → Option AOuts) : Nat → Tri Value → AH → List Nat → Option AOuts
  | 0, _, _, _ => none
  | f + 1, T, H, M => match body T H M with
    | some outs => abind (fun p => match p with
      | (.normal, T', H', M') => aloop body f T' H' M'
      | p => some [p]) outs
    | none => none
/-- What a piece of code is to do. -/
def CodeOk (P : Program) (n : Nat) (rd : Option Nat) (c : Code) (T : Tri Value) (H : AH) (M : List Nat) (outs : AOuts) : Prop :=
  ∀ (b0 : Base) (μ : Mp) (D : List Deferred) (a : Act) (w : World) (r : Option Nat) (mm : Nat) (Qx : Exit → Act → World → Prop), St μ H T n D b0 a w → MkR μ M D → RD μ rd r →
    (∀ p ∈ outs, ∀ ν D' a' w', μ.le ν → St ν p.2.2.1 p.2.1 n D' b0 a' w' → MkR ν p.2.2.2 D' → Qx p.1.exitOf a' w') → c.wpIn (fw r) mm P Qx a w
theorem aloop_ok {rd : Option Nat} {c : Code} {body : Tri Value → AH → List Nat → Option AOuts} (hb : ∀ T H M outs, body T H M = some outs → CodeOk P n rd c T H M outs) : ∀ (f : Nat) (T : Tri Value) (H : AH) (M : List Nat) (outs : AOuts), aloop body f T H M = some outs →
    ∀ (b0 : Base) (μ : Mp) (D : List Deferred) (a : Act) (w : World) (r : Option Nat) (mm : Nat) (Qx : Exit → Act → World → Prop), St μ H T n D b0 a w → MkR μ M D → RD μ rd r →
    (∀ p ∈ outs, ∀ ν D' a' w', μ.le ν → St ν p.2.2.1 p.2.1 n D' b0 a' w' → MkR ν p.2.2.2 D' → Qx p.1.exitOf a' w') → Code.roundsIn (fw r) mm P c Qx f a w
  | 0, _, _, _, _, e, _, _, _, _, _, _, _, _, _, _, _, _ => by cases e
  | f + 1, T, H, M, outs, e, b0, μ, D, a, w, r, mm, Qx, hs, hM, hr, hk => by
    rw [aloop] at e
    rw [roundsIn_succ]
    split at e
    · rename_i ps h1
      refine hb _ _ _ _ h1 b0 μ D a w r mm _ hs hM hr ?_
      rintro ⟨ax, T1, H1, M1⟩ hp ν D' a' w' hle hs' hM'
      obtain ⟨m1, h2, h3⟩ := abind_mem e _ hp
      cases ax with
      | normal => exact aloop_ok hb f T1 H1 M1 m1 h2 b0 ν D' a' w' r mm Qx hs' hM' (hr.mono hle) (fun q hq ξ D2 a2 w2 h4 => hk q (h3 q hq) ξ D2 a2 w2 (hle.trans h4))
      | exit id => cases h2; exact hk _ (h3 _ (by simp)) ν D' a' w' hle hs' hM'
      | ret => cases h2; exact hk _ (h3 _ (by simp)) ν D' a' w' hle hs' hM'
    · cases e
end
end AM
end Go.Proofs.YtoicnghjjgkebaaGreatDoor
namespace Go.Proofs.YtoicnghjjgkebaaGreatDoor
namespace AM
open Go.RowKit
variable [Toks]

section
variable {P : Program} {E : Env} {Q : Eqs} {call : ACall} {round : ARound} {n : Nat}
def amark (H : AH) (M : List Nat) : Option Nat → Option (Nat × AH × List Nat)
  | none => bif Nat.blt (H.next + 1) 1099511627776 then some (H.next, H.alloc .dfr, H.next :: M) else none
  | some l => match H.t.get l with
    | some (.loop _ _ _ _ _ _ _ d) => some (d, H, M)
    | _ => none
def isBusy : LoopState → Bool
  | .busy => true
  | _ => false
def aend (H : AH) (l : Nat) (T : Tri Value) (M : List Nat) : Option (AX × AS) := match H.t.get l with
  | some (.loop st pend T' n ps as bd d) => bif isBusy st then none else match pend with
    | none => some (.normal, T, H.put l (.loop .exhausted none T' n ps as bd d), M)
    | some .ret => some (.ret, T, H.put l (.loop .exhausted (some .ret) T' n ps as bd d), M)
    | some (.exit id) => some (.exit id, T, H.put l (.loop .exhausted (some (.exit id)) T' n ps as bd d), M)
    | _ => none
  | _ => none
def arange (E : Env) (call : ACall) (n : Nat) (rd : Option Nat) (fo : Operand) (ps : Array Tmp) (as bd : Code) (T : Tri Value) (H : AH) (M : List Nat) : Option AOuts :=
  match amark H M rd with
  | none => none
  | some (d, H1, M1) => match aeval T.get fo with
    | some (.func (.func g) x y) => match E.fn g with
      | some fn => bif fn.body.isSome && Nat.blt (H1.next + 1) 1099511627776 then (match call g ((x.toList ++ [.func (.yield H1.next) #[] #[]]) ++ y.toList) (H1.alloc (.loop .ready none T n ps as bd d)) with
        | some outs => abind (fun p => match aend p.2 H1.next T M1 with
          | some q => some [q]
          | none => none) outs
        | none => none) else none
      | none => none
    | _ => none
theorem Rel.loopAt {μ : Mp} {H : AH} {b : Base} {w : World} (h : Rel μ H b w) {l : Nat} {st : LoopState} {pend : Option Code} {T : Tri Value} {n : Nat} {ps : Array Tmp} {as bd : Code} {d : Nat} (hk : H.t.get l = some (.loop st pend T n ps as bd d)) {g z : Nat} (hm : μ l = some (g, z)) :
    ∃ fn tmps d', w.heap[g]? = some (.loop { state := st, pending := pend, fn := fn, tmps := tmps, params := ps, assign := as, body := bd, defers := d' }) ∧ tmps.size = n ∧
      (∀ (t : Nat) (v : Value), T.get t = some v → ∃ v', tmps[t]? = some v' ∧ VR μ v v') ∧ ∃ y, μ d = some (d', y) := by
  obtain ⟨g', s', e1, l1, _⟩ := h.lies l _ hk
  rw [hm] at e1; cases e1
  obtain ⟨o, ho, fn, tmps, d', rfl, h2, h3, y, h4⟩ := l1 rfl
  exact ⟨fn, tmps, d', ho, h2, h3, y, h4⟩
theorem aend_ok {H H' : AH} {l : Nat} {T T' : Tri Value} {M M' : List Nat} {ax : AX} (e : aend H l T M = some (ax, T', H', M')) {b : Base} {μ : Mp} {w : World} (h : Rel μ H b w) {g z : Nat} (hm : μ l = some (g, z)) :
    T' = T ∧ M' = M ∧ ∃ jump w', (Instr.endLoop g).run P w = .ok jump w' ∧ Rel μ H' b w' ∧ ((ax = .normal ∧ jump = none) ∨ (ax = .ret ∧ jump = some .ret) ∨ ∃ id, ax = .exit id ∧ jump = some (.exit id)) := by
  unfold aend at e
  split at e
  · rename_i st pend T1 n1 ps as bd d hk
    obtain ⟨fn, tmps, d', h1, h2, h3, h4⟩ := h.loopAt hk hm
    cases hb : isBusy st with
    | true => rw [hb] at e; cases e
    | false =>
      rw [hb, cond_false] at e
      have hst : st ≠ .busy := by rintro rfl; cases hb
      have hrun := run_endLoop (P := P) h1 hst
      have hrel : Rel μ (H.put l (.loop .exhausted pend T1 n1 ps as bd d)) b (World.over w g (.loop { state := .exhausted, pending := pend, fn := fn, tmps := tmps, params := ps, assign := as, body := bd, defers := d' })) :=
        h.over hk rfl rfl hm ⟨fn, tmps, d', rfl, h2, h3, h4⟩
      split at e
      · cases e; exact ⟨rfl, rfl, _, _, hrun, hrel, .inl ⟨rfl, rfl⟩⟩
      · cases e; exact ⟨rfl, rfl, _, _, hrun, hrel, .inr (.inl ⟨rfl, rfl⟩)⟩
      · cases e; exact ⟨rfl, rfl, _, _, hrun, hrel, .inr (.inr ⟨_, rfl, rfl⟩)⟩
      · cases e
  · cases e
theorem arange_ok (hE : E.Ok P) (hC : CallOk P call) {rd : Option Nat} {fo : Operand} {ps : Array Tmp} {as bd : Code} {T : Tri Value} {H : AH} {M : List Nat} {outs : AOuts} (e : arange E call n rd fo ps as bd T H M = some outs) :
    CodeOk P n rd (.rangeFunc fo ps as bd) T H M outs := by
  intro b0 μ D a w r mm Qx hs hM hr hk
  unfold arange at e
  split at e
  · cases e
  · rename_i d H1 M1 hmk
    split at e
    · rename_i g x y hf
      split at e
      · rename_i fn hfn
        cases hb : (fn.body.isSome && Nat.blt (H1.next + 1) 1099511627776) with
        | false => rw [hb] at e; cases e
        | true =>
          rw [hb, cond_true] at e
          rw [Bool.and_eq_true] at hb
          have hn1 : H1.next + 1 < 1099511627776 := Nat.le_of_ble_eq_true hb.2
          split at e
          · rename_i outs3 hcall
            have enter : ∀ f, ∃ ν mark w1 l d', μ.le ν ∧ (Instr.enterLoop f a.tmps ps as bd r).run P w = .ok (l, mark) (w1.alloc (.loop { state := .ready, pending := none, fn := f, tmps := a.tmps, params := ps, assign := as, body := bd, defers := d' })) ∧ l = w1.heap.size ∧ Rel ν H1 b0 w1 ∧ (∃ z, ν d = some (d', z)) ∧ MkR ν M1 (mark ++ D) := by
              intro f
              cases rd with
              | none =>
                cases r with
                | some _ => exact hr.elim
                | none =>
                  simp only [amark] at hmk
                  cases hb2 : Nat.blt (H.next + 1) 1099511627776 with
                  | false => rw [hb2] at hmk; cases hmk
                  | true =>
                    rw [hb2] at hmk; cases hmk
                    have hn0 : H.next + 1 < 1099511627776 := Nat.le_of_ble_eq_true hb2
                    obtain ⟨ν, n1, n2, n3⟩ := hs.rel.alloc (by omega) (b := .dfr) (o := .deferred (some [])) (s := 0) rfl
                    exact ⟨ν, _, w.alloc (.deferred (some [])), _, _, n1, run_enterLoop_outer f a.tmps ps as bd, by simp, n3, ⟨0, n2⟩, ⟨⟨w.heap.size, 0, n2, rfl⟩, hM.mono n1⟩⟩
              | some l0 =>
                cases r with
                | none => exact hr.elim
                | some g0 =>
                  obtain ⟨z0, hz0⟩ := hr
                  simp only [amark] at hmk
                  split at hmk
                  · rename_i st pend T1 n1 ps1 as1 bd1 d1 hk1
                    cases hmk
                    obtain ⟨fn1, tmps1, d', h1, h2, h3, h4⟩ := hs.rel.loopAt hk1 hz0
                    refine ⟨μ, [], w, w.heap.size, d', .refl μ, ?_, rfl, hs.rel, h4, hM⟩
                    unfold Instr.enterLoop
                    simp only [Sem.run_bind, run_getLoop h1, run_newObj_alloc, Result.andThen, Sem.run_pure]
                  · cases hmk
            apply wpIn_rangeFunc
            intro f _
            obtain ⟨ν, mark, w1, l, d', q1, q2, q3, q4, ⟨zd, q5⟩, q6⟩ := enter f
            subst q3
            have hT1 := hs.tmps.mono q1
            obtain ⟨ξ, n1, n2, n3⟩ := q4.alloc (by omega) (b := .loop .ready none T n ps as bd d) (o := .loop { state := .ready, pending := none, fn := f, tmps := a.tmps, params := ps, assign := as, body := bd, defers := d' }) (s := 0)
              ⟨f, a.tmps, d', rfl, hs.size, fun t v hv => hT1 t v hv, zd, q5⟩
            have hv := aeval_ok hT1 hf
            let W := w1.alloc (.loop { state := .ready, pending := none, fn := f, tmps := a.tmps, params := ps, assign := as, body := bd, defers := d' })
            generalize hav : a.eval fo = av at hv
            cases hv with
            | @func _ _ x' _ y' h1 h2 h3 h4 =>
              have hargs : LR ξ ((x.toList ++ [.func (.yield H1.next) #[] #[]]) ++ y.toList) ((x' ++ #[Value.func (.yield w1.heap.size) #[] #[]]) ++ y').toList := by
                rw [Array.toList_append, Array.toList_append]
                exact (((AR.toList ⟨h1, h2⟩).mono n1).append (.cons (.yield n2) (.nil ξ))).append ((AR.toList ⟨h3, h4⟩).mono n1)
              refine ⟨w1.heap.size, mark, W, { target := .fn (.func g) y', args := x' ++ #[Value.func (.yield w1.heap.size) #[] #[]] }, W, g, (x' ++ #[Value.func (.yield w1.heap.size) #[] #[]]) ++ y', W, q2, ?_, (fun _ _ => trivial), ?_, (fun h => by cases h), ?_⟩
              · have hmap : Array.map a.eval #[Operand.const (.func (.yield w1.heap.size) #[] #[])] = #[Value.func (.yield w1.heap.size) #[] #[]] := by
                  apply Array.ext'
                  rw [Array.toList_map]
                  rfl
                simp only [resolve, hav, Deferred.ofValue, Sem.run_pure, hmap]
              · simp only [invoke, run_callFunc hE hfn hb.1]
              · refine (callsIn_fw (hC b0 g _ _ _ ξ _ _ hcall n3 hargs)).mono ?_
                rintro _ w3 ⟨p3, hp3, ζ, v', rfl, k1, k2, k3⟩
                obtain ⟨m3, e3, e4⟩ := abind_mem e p3 hp3
                split at e3
                case h_2 => cases e3
                rename_i q he3
                cases e3
                obtain ⟨ax, T', H', M'⟩ := q
                obtain ⟨rfl, rfl, jump, w4, j1, j2, j3⟩ := aend_ok (P := P) he3 k2 (k1.sub _ _ n2)
                refine ⟨jump, w4, j1, ?_⟩
                have hst : St ζ H' T' n (mark ++ a.defers) b0 { a with defers := mark ++ a.defers } w4 := ⟨j2, (hT1.mono n1).mono k1, hs.size, rfl⟩
                have hle := (q1.trans n1).trans k1
                have hmk' : MkR ζ M' (mark ++ a.defers) := by rw [hs.defers]; exact (q6.mono n1).mono k1
                have fin := hk (ax, T', H', M') (e4 _ (by simp)) ζ _ _ w4 hle hst hmk'
                rcases j3 with ⟨rfl, rfl⟩ | ⟨rfl, rfl⟩ | ⟨id, rfl, rfl⟩
                · exact fin
                · exact wpIn_ret fin
                · exact wpIn_exit fin
          · cases e
      · cases e
    · cases e
def ablock (id : Nat) : AOuts → AOuts
  | [] => []
  | (.exit j, S) :: l => (bif Nat.beq j id then (.normal, S) else (.exit j, S)) :: ablock id l
  | p :: l => p :: ablock id l
theorem ablock_mem {id : Nat} : ∀ {l : AOuts} {ax : AX} {S : AS}, (ax, S) ∈ l → ((∃ j, ax = .exit j ∧ (bif Nat.beq j id then (AX.normal, S) else (.exit j, S)) ∈ ablock id l) ∨ ((∀ j, ax ≠ .exit j) ∧ (ax, S) ∈ ablock id l))
  | [], _, _, h => by simp at h
  | (bx, R) :: l, ax, S, h => by
    rcases List.mem_cons.1 h with h | h
    · cases h
      cases bx with
      | exit j => exact .inl ⟨j, rfl, by simp [ablock]⟩
      | normal => exact .inr ⟨(fun j h => by cases h), by simp [ablock]⟩
      | ret => exact .inr ⟨(fun j h => by cases h), by simp [ablock]⟩
    · have hsub : ∀ p, p ∈ ablock id l → p ∈ ablock id ((bx, R) :: l) := fun p hp => by cases bx <;> exact List.mem_cons_of_mem _ hp
      rcases ablock_mem h with ⟨j, h1, h2⟩ | ⟨h1, h2⟩
      · exact .inl ⟨j, h1, hsub _ h2⟩
      · exact .inr ⟨h1, hsub _ h2⟩
def acode (P : Program) (E : Env) (Q : Eqs) (call : ACall) (round : ARound) (n f : Nat) (rd : Option Nat) : Code → Tri Value → AH → List Nat → Option AOuts
  | .skip, T, H, M | .label _, T, H, M => some [(.normal, T, H, M)]
  | .region _ ops draw, T, H, M => bif draw then (match adraw P E Q call round n ops.toList T H with
      | some (T', H') => some [(.normal, T', H', M)]
      | none => none) else (match aseq P E Q call round n ops.toList ops.toList T H with
      | some outs => some (outs.map fun p => (.normal, p.1, p.2, M))
      | none => none)
  | .seq x y, T, H, M => match acode P E Q call round n f rd x T H M with
    | some outs => abind (fun p => match p with
      | (.normal, T', H', M') => acode P E Q call round n f rd y T' H' M'
      | p => some [p]) outs
    | none => none
  | .cond c x y, T, H, M => match aeval T.get c with
    | some (.bool true) => acode P E Q call round n f rd x T H M
    | some (.bool false) => acode P E Q call round n f rd y T H M
    | some (.chan (some 2)) => (match acode P E Q call round n f rd x T H M, acode P E Q call round n f rd y T H M with
      | some o1, some o2 => some (o1 ++ o2)
      | _, _ => none)
    | _ => none
  | .block id x, T, H, M => match acode P E Q call round n f rd x T H M with
    | some outs => some (ablock id outs)
    | none => none
  | .loop x, T, H, M => aloop (acode P E Q call round n f rd x) f T H M
  | .exit id, T, H, M => some [(.exit id, T, H, M)]
  | .ret, T, H, M => some [(.ret, T, H, M)]
  | .rangeFunc fo ps as bd, T, H, M => arange E call n rd fo ps as bd T H M
  | _, _, _, _ => none
theorem acode_ok (hE : E.Ok P) (hQ : Q.Ok P) (hC : CallOk P call) (hR : RoundOk P round) (hm : P.follows .mixedOrders = true) {f : Nat} {rd : Option Nat} : ∀ (c : Code) (T : Tri Value) (H : AH) (M : List Nat) (outs : AOuts),
    acode P E Q call round n f rd c T H M = some outs → CodeOk P n rd c T H M outs := by
  intro c
  induction c with
  | skip =>
    intro T H M outs e b0 μ D a w r mm Qx hs hM hr hk
    simp only [acode, Option.some.injEq] at e
    subst e
    exact wpIn_skip (hk (.normal, T, H, M) (by simp) μ D a w (.refl μ) hs hM)
  | label l =>
    intro T H M outs e b0 μ D a w r mm Qx hs hM hr hk
    simp only [acode, Option.some.injEq] at e
    subst e
    exact wpIn_label (hk (.normal, T, H, M) (by simp) μ D a w (.refl μ) hs hM)
  | exit id =>
    intro T H M outs e b0 μ D a w r mm Qx hs hM hr hk
    simp only [acode, Option.some.injEq] at e
    subst e
    exact wpIn_exit (hk (.exit id, T, H, M) (by simp) μ D a w (.refl μ) hs hM)
  | ret =>
    intro T H M outs e b0 μ D a w r mm Qx hs hM hr hk
    simp only [acode, Option.some.injEq] at e
    subst e
    exact wpIn_ret (hk (.ret, T, H, M) (by simp) μ D a w (.refl μ) hs hM)
  | region id ops draw =>
    intro T H M outs e b0 μ D a w r mm Qx hs hM hr hk
    simp only [acode] at e
    cases draw with
    | true =>
      simp only [cond_true] at e
      split at e
      · rename_i T1 H1 h1
        cases e
        exact adraw_ok hE hQ hC hR hm h1 hs (fun ν a' w' h2 h3 => hk (.normal, T1, H1, M) (by simp) ν D a' w' h2 h3 (hM.mono h2))
      · cases e
    | false =>
      simp only [cond_false] at e
      split at e
      · rename_i ps h1
        cases e
        apply wpIn_region
        rw [List.range_eq_range']
        have := aseq_ok hE hQ (D := D) hC hR (r := r) (m := mm) (ops := ops) (Qx := Qx) ops.toList 0 T H ps μ a w rfl h1 hs (fun p hp ν a' w' h2 h3 => hk (.normal, p.1, p.2, M) (List.mem_map.2 ⟨p, hp, rfl⟩) ν D a' w' h2 h3 (hM.mono h2))
        rw [Array.length_toList] at this
        exact this
      · cases e
  | seq x y ihx ihy =>
    intro T H M outs e b0 μ D a w r mm Qx hs hM hr hk
    simp only [acode] at e
    apply wpIn_seq
    split at e
    · rename_i ps h1
      refine ihx _ _ _ _ h1 b0 μ D a w r mm _ hs hM hr ?_
      rintro ⟨ax, T1, H1, M1⟩ hp ν D1 a1 w1 q1 q2 q3
      obtain ⟨m1, h2, h3⟩ := abind_mem e _ hp
      cases ax with
      | normal => exact ihy _ _ _ _ h2 b0 ν D1 a1 w1 r mm Qx q2 q3 (hr.mono q1) (fun q hq ξ D2 a2 w2 q4 => hk q (h3 q hq) ξ D2 a2 w2 (q1.trans q4))
      | exit id => cases h2; exact hk (.exit id, T1, H1, M1) (h3 _ (by simp)) ν D1 a1 w1 q1 q2 q3
      | ret => cases h2; exact hk (.ret, T1, H1, M1) (h3 _ (by simp)) ν D1 a1 w1 q1 q2 q3
    · cases e
  | cond c x y ihx ihy =>
    intro T H M outs e b0 μ D a w r mm Qx hs hM hr hk
    simp only [acode] at e
    split at e
    · rename_i hc
      have hv := aeval_ok hs.tmps hc
      exact wpIn_cond_true (by generalize a.eval c = av at hv; cases hv; rfl) (ihx _ _ _ _ e b0 μ D a w r mm Qx hs hM hr hk)
    · rename_i hc
      have hv := aeval_ok hs.tmps hc
      exact wpIn_cond_false (by generalize a.eval c = av at hv; cases hv; rfl) (ihy _ _ _ _ e b0 μ D a w r mm Qx hs hM hr hk)
    · rename_i hc
      have hv := aeval_ok hs.tmps hc
      split at e
      · rename_i o1 o2 h1 h2
        cases e
        generalize hav : a.eval c = av at hv
        cases hv with
        | unkB b =>
          cases b with
          | true => exact wpIn_cond_true hav (ihx _ _ _ _ h1 b0 μ D a w r mm Qx hs hM hr (fun p hp => hk p (List.mem_append_left _ hp)))
          | false => exact wpIn_cond_false hav (ihy _ _ _ _ h2 b0 μ D a w r mm Qx hs hM hr (fun p hp => hk p (List.mem_append_right _ hp)))
      · cases e
    · cases e
  | block id x ihx =>
    intro T H M outs e b0 μ D a w r mm Qx hs hM hr hk
    simp only [acode] at e
    apply wpIn_block
    split at e
    · rename_i ps h1
      cases e
      refine ihx _ _ _ _ h1 b0 μ D a w r mm _ hs hM hr ?_
      rintro ⟨ax, S⟩ hp ν D1 a1 w1 q1 q2 q3
      rcases ablock_mem (id := id) hp with ⟨j, rfl, h2⟩ | ⟨h2, h3⟩
      · cases hj : Nat.beq j id with
        | true =>
          rw [hj] at h2
          have := Nat.eq_of_beq_eq_true hj
          subst this
          simp only [AX.exitOf, Exit.inBlock, if_true]
          exact hk (.normal, S) h2 ν D1 a1 w1 q1 q2 q3
        | false =>
          rw [hj] at h2
          have : ¬ j = id := by rintro rfl; rw [show Nat.beq j j = true from Nat.beq_refl j] at hj; cases hj
          simp only [AX.exitOf, Exit.inBlock, this, if_false]
          exact hk (.exit j, S) h2 ν D1 a1 w1 q1 q2 q3
      · cases ax with
        | normal => exact hk (.normal, S) h3 ν D1 a1 w1 q1 q2 q3
        | exit j => exact absurd rfl (h2 j)
        | ret => exact hk (.ret, S) h3 ν D1 a1 w1 q1 q2 q3
    · cases e
  | loop x ihx =>
    intro T H M outs e b0 μ D a w r mm Qx hs hM hr hk
    simp only [acode] at e
    exact wpIn_loop_rounds f (aloop_ok ihx f T H M outs e b0 μ D a w r mm Qx hs hM hr hk)
  | rangeFunc fo ps as bd _ _ =>
    intro T H M outs e
    simp only [acode] at e
    exact arange_ok hE hC e
  | scope x _ => intro T H M outs e; simp only [acode] at e; cases e
  | goto l => intro T H M outs e; simp only [acode] at e; cases e
  | refuse s => intro T H M outs e; simp only [acode] at e; cases e
end
end AM
end Go.Proofs.YtoicnghjjgkebaaGreatDoor
