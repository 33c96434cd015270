/-
  The abstract machine: the operations of a statement whose order is drawn: they end as was computed. No condition.
-/
import Derived.Test.YtccnkkffeokgcaaGreatDoorV23
namespace Go.Proofs.YtccnkkffeokgcaaGreatDoor
namespace AM
open Go.RowKit

section
variable {P : Program} {E : Env} {Q : Eqs} {call : ACall} {round : ARound} {n : Nat}
theorem chain_mask {A : Nat → Nat} {m' u' : Nat} {H' : AH} : ∀ (R : List DEff) (m u : Nat) (H : AH), Chain A m u H R m' u' H' → ∀ j, m'.testBit j = true → m.testBit j = true ∨ ∃ e ∈ R, e.i = j
  | [], m, u, H, h, j, hj => .inl (by rw [h.1]; exact hj)
  | e :: R, m, u, H, h, j, hj => by
    rcases chain_mask R _ _ _ h.2.2.2 j hj with h1 | ⟨e', h1, h2⟩
    · rw [Nat.testBit_or, Nat.testBit_two_pow, Bool.or_eq_true] at h1
      rcases h1 with h1 | h1
      · exact .inl h1
      · exact .inr ⟨e, by simp, by simpa using h1⟩
    · exact .inr ⟨e', by simp [h1], h2⟩
theorem adopt_next {N0 : Nat} : ∀ (l : List (Nat × Blk)) (H : AH), (adopt N0 H l).next = H.next
  | [], _ => rfl
  | x :: l, H => adopt_next l (H.put (N0 + x.1) x.2)
/-- What is known of a statement. -/
structure Drawn (P : Program) (E : Env) (Q : Eqs) (call : ACall) (round : ARound) (n : Nat) (all : List Oper) (dx : Tri Nat) (T0 : Nat → Option Value) (N0 : Nat) (out : DOut) : Prop where
  own : ∀ k o d, all[k]? = some o → o.dst = some d → d < n ∧ dx.get d = some k
  rev : ∀ t k, dx.get t = some k → ∃ o, all[k]? = some o ∧ o.dst = some t
  ops : ∀ k o, all[k]? = some o → OpFact P E Q call round all dx T0 N0 out.A out.T.get out.effs out.L k o
  effs : ∀ e ∈ out.effs, EffFact P E Q call round all dx T0 N0 out.A out.T.get e
  pair : out.effs.Pairwise fun e' e => (out.A e.i).testBit e'.i = true
  keys : ∀ x ∈ out.L, ∃ o, all[x.1]? = some o ∧ awant all (sf dx out.A x.1 T0 out.T.get) o = some true ∧ isAlloc o.op = true
  reads : ∀ k o, all[k]? = some o → isReader E o.op = true → awant all (sf dx out.A k T0 out.T.get) o = some true → ∀ m u H, (m, u, H) ∈ out.effs.map (fun e => (e.before, e.ups, e.H)) ++ [(out.before, out.ups, out.H)] → (out.A k &&& out.before) ||| m = m → u.testBit k = false →
      ∃ v K, aoper1 P E Q call round (sf dx out.A k T0 out.T.get) H o = some (v, K) ∧ PutIn out.T.get o v
  dist : out.L.Pairwise fun x y => x.1 ≠ y.1
def listedS (listed : Array Bool) (k : Nat) : Prop := listed.getD k false = true
theorem listedS_set {listed : Array Bool} {i : Nat} (hi : i < listed.size) : listedS (listed.setIfInBounds i true) = fun k => listedS listed k ∨ k = i := by
  funext k
  unfold listedS
  rw [Array.getD_eq_getD_getElem?, Array.getD_eq_getD_getElem?, Array.getElem?_setIfInBounds]
  apply propext
  by_cases e : i = k
  · subst e; simp [hi]
  · rw [if_neg e]
    exact ⟨.inl, fun h => h.resolve_right (fun e' => e e'.symm)⟩
theorem adraw_any (hE : E.Ok P) (hQ : Q.Ok P) (hC : CallOk P call) (hR : RoundOk P round) {ops : Array Oper} {dx : Tri Nat} {T0 : Nat → Option Value} {N0 : Nat} {out : DOut} (hF : Drawn P E Q call round n ops.toList dx T0 N0 out) {b0 : Base} {μ0 : Mp} (hμ0 : μ0.N ≤ N0) {D : List Deferred} {r : Option Nat} {mm : Nat} {Qx : Exit → Act → World → Prop}
    (hk : ∀ ν a' w', μ0.le ν → St ν (adopt N0 out.H out.pend) out.T n D b0 a' w' → Qx .normal a' w') : ∀ (fuel : Nat) (listed : Array Bool) (a : Act) (w : World), listed.size = ops.size → listed.toList.count false ≤ fuel →
    (∃ μ m u Hc R b, Mem ops.toList N0 out b0 μ0 (listedS listed) μ m u Hc R b w ∧ Slots ops.toList dx T0 out.T.get n D (listedS listed) μ a) → wpAnyIn (fw r) mm P .any ops Qx fuel listed a w := by
  have size : ops.toList.length = ops.size := by simp
  have fin : ∀ (listed : Array Bool) (a : Act) (w : World), (∀ k, k < ops.size → listedS listed k) → (∃ μ m u Hc R b, Mem ops.toList N0 out b0 μ0 (listedS listed) μ m u Hc R b w ∧ Slots ops.toList dx T0 out.T.get n D (listedS listed) μ a) → Qx .normal a w := by
    rintro listed a w hall ⟨μ, m, u, Hc, R, b, hM, hS⟩
    have hR0 : R = [] := by
      cases R with
      | nil => rfl
      | cons e R =>
        obtain ⟨l, hl⟩ := hM.suff
        obtain ⟨⟨o, ho, _⟩, _⟩ := hF.effs e (by rw [hl]; simp)
        exact absurd (hall e.i (by rw [← size]; exact (List.getElem?_eq_some_iff.1 ho).1)) (hM.fresh e (by simp))
    subst hR0
    obtain ⟨_, _, rfl⟩ := hM.chain
    have hsub : ∀ x ∈ out.pend, x ∈ out.L := fun x hx => List.mem_append.2 (.inr hx)
    have hlt : ∀ x ∈ out.pend, x.1 < ops.size := fun x hx => by
      obtain ⟨o, ho, _⟩ := hF.keys x (hsub x hx)
      rw [← size]; exact (List.getElem?_eq_some_iff.1 ho).1
    have hpl : plOf out [] = out.pend := rfl
    obtain ⟨b', h1, h2, _, _⟩ := adopt_list (K := N0 + ops.size) out.pend [] out.H b hM.rel hM.under (by have := hM.next; omega) (fun x hx => by have := hlt x hx; omega)
      (fun x hx => hM.held x (by rw [hpl]; exact hx) (hall _ (hlt x hx))) (by rw [List.append_nil]; exact (List.pairwise_append.1 hF.dist).2.1) (listedS listed) (fun x hx => hall _ (hlt x hx)) (fun x hx => by simp at hx)
      (by rw [List.append_nil]; exact hM.apart)
    refine hk μ a w hM.le ⟨h1.back h2, fun t v hv => ?_, hS.size, hS.defers⟩
    cases hd : dx.get t with
    | none => exact hS.outer t v hd hv
    | some k =>
      obtain ⟨o, h3, h4⟩ := hF.rev t k hd
      exact hS.slots k o t v (hall k (by rw [← size]; exact (List.getElem?_eq_some_iff.1 h3).1)) h3 h4 hv
  intro fuel
  induction fuel with
  | zero =>
    intro listed a w hsz hc hM
    have hall : ∀ k, k < ops.size → listedS listed k := fun k hk' => by
      have h0 : listed.toList.count false = 0 := by omega
      have h1 := List.count_eq_zero.1 h0
      have hk'' : k < listed.size := by omega
      unfold listedS
      rw [Array.getD_eq_getD_getElem?, Array.getElem?_eq_getElem hk'']
      cases hb : listed[k] with
      | true => rfl
      | false => exact absurd (by rw [← hb]; simp) h1
    refine ⟨?_, fin listed a w hall hM⟩
    rw [List.eq_nil_iff_forall_not_mem]
    intro j hj
    obtain ⟨h1, o, h2, _⟩ := mem_ready.1 hj
    have hj' : j < ops.size := (Array.getElem?_eq_some_iff.1 h2).1
    have := hall j hj'
    unfold listedS at this
    rw [Array.getD_eq_getD_getElem?, Array.getElem?_eq_getElem (by omega)] at h1 this
    rw [Option.getD_some] at h1 this
    rw [h1] at this; cases this
  | succ fuel ih =>
    intro listed a w hsz hc hM
    refine ⟨fun hnil => fin listed a w ?_ hM, fun i hi => ?_⟩
    · intro k
      induction k using Nat.strongRecOn with
      | _ k ihk =>
        intro hk'
        rcases Classical.em (listedS listed k) with h | h
        · exact h
        · have hk2 : k < listed.size := by omega
          have : k ∈ Region.ready .any ops listed := mem_ready.2 ⟨by
            unfold listedS at h
            rw [Array.getD_eq_getD_getElem?, Array.getElem?_eq_getElem hk2] at h ⊢
            simpa using h, ops[k], Array.getElem?_eq_getElem hk', fun e he hb => by
            have hlt := (hF.ops k ops[k] (by simp [hk'])).edges e he hb
            exact ihk e.on hlt (by omega)⟩
          rw [hnil] at this; simp at this
    · obtain ⟨μ, m, u, Hc, R, b, hM, hS⟩ := hM
      obtain ⟨h1, o, ho, hedge⟩ := mem_ready.1 hi
      have hi' : i < ops.size := (Array.getElem?_eq_some_iff.1 ho).1
      have hil : i < listed.size := by omega
      have hoL : ops.toList[i]? = some o := by simpa using ho
      have hnS : ¬ listedS listed i := by
        unfold listedS
        rw [Array.getD_eq_getD_getElem?, Array.getElem?_eq_getElem hil] at h1 ⊢
        simpa using h1
      have F := hF.ops i o hoL
      have hanc : ∀ j, (out.A i).testBit j = true → listedS listed j := fun j hj => by
        obtain ⟨e, h2, h3, h4⟩ := F.anc j hj
        rcases h4 with rfl | h4
        · exact hedge e h2 h3
        · exact hM.edges e.on (hedge e h2 h3) j h4
      have hT : TR μ (sf dx out.A i T0 out.T.get) a.tmps := hS.tr hF.rev hanc (fun k h2 h3 => hnS (hM.edges k h3 i h2))
      have hcnt : (listed.setIfInBounds i true).toList.count false ≤ fuel := by
        have hb : listed[i] = false := by
          rw [Array.getD_eq_getD_getElem?, Array.getElem?_eq_getElem hil] at h1
          simpa using h1
        rw [Array.toList_setIfInBounds, List.count_set (by simpa using hil)]
        have hpos : 0 < listed.toList.count false := List.count_pos_iff.2 (by rw [← hb]; simp)
        rw [Array.getElem_toList, hb]
        simp only [beq_self_eq_true, if_true, show (true == false) = false from rfl, Bool.false_eq_true, if_false]
        omega
      have nxt : ∀ ν a' w', (∃ m u Hc R b, Mem ops.toList N0 out b0 μ0 (fun k => listedS listed k ∨ k = i) ν m u Hc R b w') → Slots ops.toList dx T0 out.T.get n D (fun k => listedS listed k ∨ k = i) ν a' → wpAnyIn (fw r) mm P .any ops Qx fuel (listed.setIfInBounds i true) a' w' := by
        rintro ν a' w' ⟨m, u, Hc, R, b, g1⟩ g2
        refine ih _ a' w' (by simpa using hsz) hcnt ⟨ν, m, u, Hc, R, b, ?_, ?_⟩
        · rw [listedS_set hil]; exact g1
        · rw [listedS_set hil]; exact g2
      obtain ⟨pre, hpre⟩ := hM.suff
      have plL : ∀ x ∈ plOf out R, x ∈ out.L := fun x hx => by
        unfold DOut.L
        rw [hpre, List.flatMap_append, List.append_assoc]
        exact List.mem_append.2 (.inr hx)
      have plD : (plOf out R).Pairwise fun x y => x.1 ≠ y.1 := by
        have := hF.dist
        unfold DOut.L at this
        rw [hpre, List.flatMap_append, List.append_assoc] at this
        exact (List.pairwise_append.1 this).2.1
      have noKey : (awant ops.toList (sf dx out.A i T0 out.T.get) o = some true → isAlloc o.op = false) → ∀ x ∈ plOf out R, x.1 ≠ i := fun h x hx e => by
        obtain ⟨o', h2, h3, h4⟩ := hF.keys x (plL x hx)
        rw [e, hoL] at h2; cases h2
        rw [e] at h3
        rw [h h3] at h4; cases h4
      have noEff : (awant ops.toList (sf dx out.A i T0 out.T.get) o = some true → isAlloc o.op = false → (isPure o.op || isReader E o.op) = false → False) → ∀ e ∈ R, e.i ≠ i := fun h e he ei => by
        obtain ⟨⟨o', h2, h3, h4, h5, _⟩, _⟩ := hF.effs e (by rw [hpre]; exact List.mem_append.2 (.inr he))
        rw [ei, hoL] at h2; cases h2
        rw [ei] at h3
        exact h h3 h4 h5
      unfold wpOpIn
      rw [ho]
      dsimp only
      rcases F.kind with ⟨hw, hput⟩ | ⟨hw, hal, v, c, hv, hput, hL⟩ | ⟨hw, hal, hfl, v, H, K, hv, hput⟩ | ⟨e, he, hei⟩
      · rw [if_neg (by rw [awant_ok hT hw]; decide)]
        refine ⟨fun _ _ => trivial, nxt μ _ _ ⟨m, u, Hc, R, b, hM.more hanc (noKey fun h => by rw [hw] at h; cases h) (noEff fun h => by rw [hw] at h; cases h)⟩ (hS.put hF.own hoL hnS (cval_ok μ 3 undef rfl) hput)⟩
      · rw [if_pos (awant_ok hT hw)]
        obtain ⟨q1, q2, ob, s, v', q3, q4, q5⟩ := aallocB_ok (w := w) hE hT hv
        refine ⟨fun _ _ => trivial, ?_⟩
        rw [Oper.semAt_eq _ _ _ q2, q3]
        obtain ⟨ν, b', n1, n2, n3⟩ := hM.lay plD hμ0 (by rw [size]; exact hi') hanc hnS (c := c) (by
          unfold DOut.L at hL
          rw [hpre, List.flatMap_append, List.append_assoc] at hL
          rcases List.mem_append.1 hL with hL | hL
          · obtain ⟨e, he, hx⟩ := List.mem_flatMap.1 hL
            have heL : e ∈ out.effs := by rw [hpre]; exact List.mem_append.2 (.inl he)
            rcases hM.done e heL with h5 | h5
            · exact absurd (hM.edges _ h5 _ ((hF.effs e heL).ad _ hx)) hnS
            · have := (List.pairwise_append.1 (hpre ▸ hF.pair)).2.2 e he e h5
              exact absurd ((hF.ops e.i _ (hF.effs e heL).op.choose_spec.1).low _ this) (Nat.lt_irrefl _)
          · exact hL) (noEff fun h h2 => by rw [hal] at h2; cases h2) q4 q1
        exact nxt ν _ _ ⟨m, u, Hc, R, b', n3⟩ ((hS.mono n1).put hF.own hoL hnS (q5 ν n2) hput)
      · rw [if_pos (awant_ok hT hw)]
        have key : ∃ v, aoper1 P E Q call round (sf dx out.A i T0 out.T.get) Hc o = some (v, Hc) ∧ PutIn out.T.get o v := by
          cases hp : isPure o.op with
          | true => exact ⟨v, aoper_pure hp hv, hput⟩
          | false =>
            rw [hp, Bool.false_or] at hfl
            obtain ⟨v2, K2, g1, g2⟩ := hF.reads i o hoL hfl hw m u Hc (by
              cases R with
              | nil =>
                obtain ⟨rfl, rfl, rfl⟩ := hM.chain
                simp
              | cons e R =>
                obtain ⟨rfl, rfl, rfl, _⟩ := hM.chain
                rw [hpre]
                simp) (by
              apply Nat.eq_of_testBit_eq
              intro j
              rw [Nat.testBit_or, Nat.testBit_and]
              cases h2 : m.testBit j with
              | true => rw [Bool.or_true]
              | false =>
                rw [Bool.or_false]
                cases h3 : (out.A i).testBit j with
                | false => rfl
                | true =>
                  rw [Bool.true_and]
                  cases h4 : out.before.testBit j with
                  | false => rfl
                  | true =>
                    rcases chain_mask R _ _ _ hM.chain j h4 with h5 | ⟨e, h5, h6⟩
                    · rw [h2] at h5; exact h5.symm
                    · exact absurd (h6 ▸ hanc j h3) (hM.fresh e h5)) (by
              cases h2 : u.testBit i with
              | false => rfl
              | true => exact absurd (hM.ups i h2) hnS)
            have := aoper_same hfl g1
            subst this
            exact ⟨v2, g1, g2⟩
        obtain ⟨v2, g1, g2⟩ := key
        refine aoper1_ok hE hQ hC hR hM.rel hT g1 ?_
        intro ν v' w' hle hrel hvr
        exact nxt ν _ _ ⟨m, u, Hc, R, b, (hM.world hle hrel).more hanc (noKey fun _ => hal) (noEff fun _ _ h => by rw [hfl] at h; cases h)⟩ ((hS.mono hle.sub).put hF.own hoL hnS hvr g2)
      · have heR : e ∈ R := (hM.done e he).resolve_left (by rw [hei]; exact hnS)
        cases R with
        | nil => simp at heR
        | cons e0 R =>
          have hpR := (List.pairwise_append.1 (hpre ▸ hF.pair)).2.1
          have : e = e0 := by
            rcases List.mem_cons.1 heR with h2 | h2
            · exact h2
            · have h3 := (List.pairwise_cons.1 hpR).1 e h2
              rw [hei] at h3
              exact absurd (hanc _ h3) (hM.fresh e0 (by simp))
          subst this
          obtain ⟨⟨o', k1, k2, k3, k4, v, k5, k6⟩, kad⟩ := hF.effs e he
          rw [hei] at k1 k2 k5 kad
          rw [hoL] at k1; cases k1
          rw [if_pos (awant_ok hT k2)]
          obtain ⟨c1, c2, c3, c4⟩ := hM.chain
          have hpl : plOf out (e :: R) = e.ad ++ plOf out R := by unfold plOf; rw [List.flatMap_cons, List.append_assoc]
          have hlt : ∀ x ∈ e.ad, x.1 < ops.size := fun x hx => by
            obtain ⟨o', h2, _⟩ := hF.keys x (plL x (by rw [hpl]; exact List.mem_append.2 (.inl hx)))
            rw [← size]; exact (List.getElem?_eq_some_iff.1 h2).1
          obtain ⟨b', r1, r2, r3, r4⟩ := adopt_list (K := N0 + ops.size) e.ad (plOf out R) Hc b hM.rel hM.under (by have := hM.next; omega) (fun x hx => by have := hlt x hx; omega)
            (fun x hx => hM.held x (by rw [hpl]; exact List.mem_append.2 (.inl hx)) (hanc _ (kad x hx))) (by rw [← hpl]; exact plD) (listedS listed) (fun x hx => hanc _ (kad x hx)) (fun x hx => hM.held x (by rw [hpl]; exact List.mem_append.2 (.inr hx)))
            (by rw [← hpl]; exact hM.apart)
          rw [c3] at k5
          refine aoper1_ok hE hQ hC hR r1 hT k5 ?_
          intro ν v' w' hle hrel hvr
          have hanx : e.H'.next = e.H'.next := rfl
          have hN : N0 + ops.toList.length ≤ e.H'.next := by
            have h2 := hle.1
            rw [r1.num, hrel.num, r3] at h2
            exact Nat.le_trans hM.next h2
          refine nxt ν _ _ ⟨m ||| 2 ^ e.i, u ||| out.A e.i, e.H', R, b', hrel, r2, hM.le.trans hle, hN, c4, ⟨pre ++ [e], by rw [hpre]; simp⟩, fun f hf => ?_, fun f hf hS' => ?_, fun k hk' => ?_, fun k hk' j hj => ?_, fun k hk' hS' => ?_, fun x hx hSx => ?_, fun x hx y hy hSx hSy hne g s g' s' e1 e2 => ?_⟩ ((hS.mono hle.sub).put hF.own hoL hnS hvr k6)
          · rcases hM.done f hf with h2 | h2
            · exact .inl (.inl h2)
            · rcases List.mem_cons.1 h2 with rfl | h2
              · exact .inl (.inr hei)
              · exact .inr h2
          · rcases hS' with h2 | h2
            · exact hM.fresh f (by simp [hf]) h2
            · have h3 := (List.pairwise_cons.1 hpR).1 f hf
              rw [h2] at h3
              have := (hF.ops i o hoL).low _ h3
              omega
          · rw [Nat.testBit_or, Bool.or_eq_true] at hk'
            rcases hk' with h2 | h2
            · exact .inl (hM.ups k h2)
            · rw [hei] at h2; exact .inl (hanc k h2)
          · rcases hk' with h2 | rfl
            · exact .inl (hM.edges k h2 j hj)
            · exact .inl (hanc j hj)
          · rw [hle.2 _ (by rw [r1.num, r3]; have := hM.next; omega)]
            exact hM.unm k hk' (fun h2 => hS' (.inl h2))
          · have hxi : x.1 ≠ i := noKey (fun _ => k3) x (by rw [hpl]; exact List.mem_append.2 (.inr hx))
            exact (r4 x hx (hSx.resolve_right hxi)).world hle.sub fun g hg => by rw [hrel.keep g hg, r1.keep g hg]
          · have hx' := noKey (fun _ => k3) x (by rw [hpl]; exact List.mem_append.2 (.inr hx))
            have hy' := noKey (fun _ => k3) y (by rw [hpl]; exact List.mem_append.2 (.inr hy))
            obtain ⟨g1, s1, _, f1, _⟩ := r4 x hx (hSx.resolve_right hx')
            obtain ⟨g2, s2, _, f2, _⟩ := r4 y hy (hSy.resolve_right hy')
            rw [hle.sub _ _ f1] at e1; cases e1
            rw [hle.sub _ _ f2] at e2; cases e2
            exact hM.apart x (by rw [hpl]; exact List.mem_append.2 (.inr hx)) y (by rw [hpl]; exact List.mem_append.2 (.inr hy)) (hSx.resolve_right hx') (hSy.resolve_right hy') hne _ _ _ _ f1 f2
end
end AM
end Go.Proofs.YtccnkkffeokgcaaGreatDoor
