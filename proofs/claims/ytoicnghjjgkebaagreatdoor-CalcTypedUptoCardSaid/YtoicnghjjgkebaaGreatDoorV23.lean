/-
  The abstract machine: the operations of a statement whose order is drawn: what was computed of them. No condition.
  The abstract machine: the operations of a statement whose order is drawn: whichever order comes. No condition.
-/
import Derived.Test.YtoicnghjjgkebaaGreatDoorV21
set_option linter.unusedSectionVars false
set_option linter.unusedSimpArgs false
set_option linter.unusedVariables false
set_option linter.unnecessarySimpa false
namespace Go.Proofs.YtoicnghjjgkebaaGreatDoor
namespace AM
open Go.RowKit
variable [Toks]

section
variable {P : Program} {E : Env} {Q : Eqs} {call : ACall} {round : ARound} {n : Nat} {all : List Oper} {dx : Tri Nat} {T0 : Nat → Option Value} {Al : List Nat} {N0 : Nat}
def PutIn (Tf : Nat → Option Value) (o : Oper) (v : Value) : Prop := ∀ d, o.dst = some d → Tf d = some v
structure EffFact (P : Program) (E : Env) (Q : Eqs) (call : ACall) (round : ARound) (all : List Oper) (dx : Tri Nat) (T0 : Nat → Option Value) (N0 : Nat) (A : Nat → Nat) (Tf : Nat → Option Value) (e : DEff) : Prop where
  op : ∃ o, all[e.i]? = some o ∧ awant all (sf dx A e.i T0 Tf) o = some true ∧ isAlloc o.op = false ∧ (isPure o.op || isReader E o.op) = false ∧
    ∃ v, aoper1 P E Q call round (sf dx A e.i T0 Tf) (adopt N0 e.H e.ad) o = some (v, e.H') ∧ PutIn Tf o v
  ad : ∀ x ∈ e.ad, (A e.i).testBit x.1 = true
structure OpFact (P : Program) (E : Env) (Q : Eqs) (call : ACall) (round : ARound) (all : List Oper) (dx : Tri Nat) (T0 : Nat → Option Value) (N0 : Nat) (A : Nat → Nat) (Tf : Nat → Option Value) (effs : List DEff) (L : List (Nat × Blk)) (k : Nat) (o : Oper) : Prop where
  edges : ∀ e ∈ o.after, Region.binds .any e = true → e.on < k
  anc : ∀ j, (A k).testBit j = true → ∃ e ∈ o.after, Region.binds .any e = true ∧ (j = e.on ∨ (A e.on).testBit j = true)
  low : ∀ j, (A k).testBit j = true → j < k
  kind : (awant all (sf dx A k T0 Tf) o = some false ∧ PutIn Tf o undef) ∨
    (awant all (sf dx A k T0 Tf) o = some true ∧ isAlloc o.op = true ∧ ∃ v b, aallocB E (sf dx A k T0 Tf) (N0 + k) o.op = some (v, b) ∧ PutIn Tf o v ∧ (k, b) ∈ L) ∨
    (awant all (sf dx A k T0 Tf) o = some true ∧ isAlloc o.op = false ∧ (isPure o.op || isReader E o.op) = true ∧ ∃ v H K, aoper1 P E Q call round (sf dx A k T0 Tf) H o = some (v, K) ∧ PutIn Tf o v) ∨
    (∃ e ∈ effs, e.i = k)
theorem OpFact.mono {A : Nat → Nat} {Tf : Nat → Option Value} {effs effs' : List DEff} {L L' : List (Nat × Blk)} {k : Nat} {o : Oper} (h : OpFact P E Q call round all dx T0 N0 A Tf effs L k o) (h1 : ∀ e ∈ effs, e ∈ effs') (h2 : ∀ x ∈ L, x ∈ L') : OpFact P E Q call round all dx T0 N0 A Tf effs' L' k o := by
  refine ⟨h.edges, h.anc, h.low, ?_⟩
  rcases h.kind with h | ⟨a1, a2, v, b, a3, a4, a5⟩ | h | ⟨e, he, hk⟩
  · exact .inl h
  · exact .inr (.inl ⟨a1, a2, v, b, a3, a4, h2 _ a5⟩)
  · exact .inr (.inr (.inl h))
  · exact .inr (.inr (.inr ⟨e, h1 e he, hk⟩))
def Chain (A : Nat → Nat) : Nat → Nat → AH → List DEff → Nat → Nat → AH → Prop
  | m, u, H, [], m', u', H' => m = m' ∧ u = u' ∧ H = H'
  | m, u, H, e :: es, m', u', H' => e.before = m ∧ e.ups = u ∧ e.H = H ∧ Chain A (m ||| 2 ^ e.i) (u ||| A e.i) e.H' es m' u' H'
def DOut.A (out : DOut) (j : Nat) : Nat := out.ancs.getD j 0
def DOut.L (out : DOut) : List (Nat × Blk) := out.effs.flatMap (·.ad) ++ out.pend
structure PassOk (P : Program) (E : Env) (Q : Eqs) (call : ACall) (round : ARound) (all : List Oper) (dx : Tri Nat) (T0 : Nat → Option Value) (N0 : Nat) (i : Nat) (ancs : List Nat) (m u : Nat) (pend : List (Nat × Blk)) (T : Tri Value) (H : AH) (out : DOut) : Prop where
  ancs : ∀ j, j < i → out.ancs.getD j 0 = ancs.getD j 0
  slots : ∀ t, (dx.get t = none ∨ ∃ k, k < i ∧ dx.get t = some k) → out.T.get t = T.get t
  ops : ∀ k o, i ≤ k → all[k]? = some o → OpFact P E Q call round all dx T0 N0 out.A out.T.get out.effs out.L k o
  held : ∀ x ∈ pend, x ∈ out.L
  chain : Chain out.A m u H out.effs out.before out.ups out.H
  effs : ∀ e ∈ out.effs, i ≤ e.i ∧ EffFact P E Q call round all dx T0 N0 out.A out.T.get e ∧ ∀ j, m.testBit j = true → (out.A e.i).testBit j = true
  pair : out.effs.Pairwise fun e' e => (out.A e.i).testBit e'.i = true
  keys : ∀ x ∈ out.L, x ∈ pend ∨ ∃ o, all[x.1]? = some o ∧ awant all (sf dx out.A x.1 T0 out.T.get) o = some true ∧ isAlloc o.op = true
theorem aput_get {T T' : Tri Value} {dst : Option Tmp} {v : Value} (e : aput T n dst v = some T') (t : Nat) : T'.get t = if dst = some t then some v else T.get t := by
  unfold aput at e
  split at e
  · cases e; rfl
  · rename_i d
    cases hb : (Nat.blt d n && Nat.blt n 1048575) with
    | false => rw [hb] at e; cases e
    | true =>
      rw [hb, cond_true] at e
      cases e
      simp only [Bool.and_eq_true] at hb
      have h1 : d < n := Nat.le_of_ble_eq_true hb.1
      have h2 : n < 1048575 := Nat.le_of_ble_eq_true hb.2
      rw [Tri.get_set 20 T d t v (Nat.lt_of_le_of_lt (Nat.succ_le_of_lt h1) (Nat.lt_trans h2 (by decide)))]
      by_cases e2 : t = d
      · subst e2; simp
      · rw [if_neg e2, if_neg (fun h => e2 (Option.some.inj h).symm)]
theorem PassOk.step {i : Nat} {ancs : List Nat} {m' u' : Nat} {pend' : List (Nat × Blk)} {T T' : Tri Value} {H' : AH} {out : DOut} {o : Oper} {v : Value}
    (hdx : ∀ k o d, all[k]? = some o → o.dst = some d → dx.get d = some k) (hlen : ancs.length = i) (hbits : ∀ j b, (ancs.getD j 0).testBit b = true → b < i) (ho : all[i]? = some o)
    (hed : ∀ e ∈ o.after, Region.binds .any e = true → e.on < i)
    (hA : ∀ j, Al.getD j 0 = out.A j) (hT0 : ∀ t k, dx.get t = some k → i ≤ k → T.get t = T0 t)
    (hp : aput T n o.dst v = some T') (h : PassOk P E Q call round all dx T0 N0 (i + 1) (ancs ++ [ancOf ancs o]) m' u' pend' T' H' out) :
    (∀ j, j < i → out.ancs.getD j 0 = ancs.getD j 0) ∧ out.A i = ancOf ancs o ∧ (∀ t, (dx.get t = none ∨ ∃ k, k < i ∧ dx.get t = some k) → out.T.get t = T.get t) ∧ PutIn out.T.get o v ∧
    sl dx Al i (ancOf ancs o) T.get = sf dx out.A i T0 out.T.get ∧ (∀ j, (out.A i).testBit j = true → ∃ e ∈ o.after, Region.binds .any e = true ∧ (j = e.on ∨ (out.A e.on).testBit j = true)) ∧ (∀ j, (out.A i).testBit j = true → j < i) := by
  have c1 : ∀ j, j < i → out.ancs.getD j 0 = ancs.getD j 0 := fun j hj => by
    rw [h.ancs j (by omega), List.getD_eq_getElem?_getD, List.getElem?_append_left (by omega), ← List.getD_eq_getElem?_getD]
  have c1' : out.A i = ancOf ancs o := by
    unfold DOut.A
    rw [h.ancs i (by omega), List.getD_eq_getElem?_getD, List.getElem?_append_right (by omega), hlen, Nat.sub_self]; rfl
  have c2 : ∀ t, (dx.get t = none ∨ ∃ k, k < i ∧ dx.get t = some k) → out.T.get t = T.get t := fun t ht => by
    rw [h.slots t (by rcases ht with ht | ⟨k, hk, ht⟩; exact .inl ht; exact .inr ⟨k, by omega, ht⟩), aput_get hp, if_neg]
    intro hd
    have := hdx i o t ho hd
    rcases ht with ht | ⟨k, hk, ht⟩
    · rw [ht] at this; cases this
    · rw [ht] at this; cases this; omega
  have low : ∀ j, (ancOf ancs o).testBit j = true → j < i := fun j hj => by
    obtain ⟨e, h1, h2, h3⟩ := ancOf_bit hj
    rcases h3 with rfl | h3
    · exact hed e h1 h2
    · exact hbits _ _ h3
  refine ⟨c1, c1', c2, fun d hd => ?_, ?_, ?_, by rw [c1']; exact low⟩
  · rw [h.slots d (.inr ⟨i, by omega, hdx i o d ho hd⟩), aput_get hp, if_pos hd]
  · funext t
    unfold sl sf
    cases hd : dx.get t with
    | none => exact (c2 t (.inl hd)).symm
    | some k =>
      dsimp only
      cases hb : (ancOf ancs o).testBit k with
      | true => rw [c1', hb, Bool.true_or, cond_true, cond_true]; exact (c2 t (.inr ⟨k, low k hb, hd⟩)).symm
      | false =>
        rw [c1', hb, Bool.false_or, cond_false, hA]
        cases hb2 : (Nat.blt i k && (out.A k).testBit i) with
        | false => rfl
        | true =>
          rw [cond_true, cond_true]
          rw [Bool.and_eq_true] at hb2
          exact hT0 t k hd (Nat.le_of_lt (Nat.le_of_ble_eq_true hb2.1))
  · rw [c1']
    intro j hj
    obtain ⟨e, h1, h2, h3⟩ := ancOf_bit hj
    refine ⟨e, h1, h2, ?_⟩
    rcases h3 with h3 | h3
    · exact .inl h3
    · right; unfold DOut.A; rw [c1 _ (hed e h1 h2)]; exact h3
theorem passA_ok (hdx : ∀ k o d, all[k]? = some o → o.dst = some d → dx.get d = some k) : ∀ (os : List Oper) (i : Nat) (ancs : List Nat) (m u : Nat) (pend : List (Nat × Blk)) (T : Tri Value) (H : AH) (out : DOut),
    (∀ j, Al.getD j 0 = out.A j) → (∀ t k, dx.get t = some k → i ≤ k → T.get t = T0 t) → all.drop i = os → ancs.length = i → (∀ j b, (ancs.getD j 0).testBit b = true → b < i) → passA P E Q call round n all dx Al N0 os i ancs m u pend T H = some out → PassOk P E Q call round all dx T0 N0 i ancs m u pend T H out
  | [], i, ancs, m, u, pend, T, H, out, hA, hT0, hd, hlen, hbits, e => by
    simp only [passA, Option.some.injEq] at e
    subst e
    refine ⟨fun _ _ => rfl, fun _ _ => rfl, fun k o hk ho => ?_, fun x hx => by simpa [DOut.L] using hx, ⟨rfl, rfl, rfl⟩, fun e he => by simp at he, List.Pairwise.nil, fun x hx => .inl (by simpa [DOut.L] using hx)⟩
    have : all.length ≤ i := List.drop_eq_nil_iff.1 hd
    have := (List.getElem?_eq_some_iff.1 ho).1
    omega
  | o :: os, i, ancs, m, u, pend, T, H, out, hA, hT0, hd, hlen, hbits, e => by
    have ho : all[i]? = some o := by
      have := List.getElem?_drop (xs := all) (i := i) (j := 0)
      rw [hd] at this
      simpa using this.symm
    have hd' : all.drop (i + 1) = os := by
      rw [← List.drop_drop, hd]; rfl
    rw [passA] at e
    cases hb : (o.after.toList.all fun e => !Region.binds .any e || Nat.blt e.on i) with
    | false => rw [hb] at e; cases e
    | true =>
      rw [hb, cond_true] at e
      have hed : ∀ e ∈ o.after, Region.binds .any e = true → e.on < i := fun e he h1 => by
        have := List.all_eq_true.1 hb e (by simpa using he)
        rw [h1] at this
        simpa using this
      have hlen' : (ancs ++ [ancOf ancs o]).length = i + 1 := by simp [hlen]
      have hbits' : ∀ j b, ((ancs ++ [ancOf ancs o]).getD j 0).testBit b = true → b < i + 1 := fun j b h => by
        rw [List.getD_eq_getElem?_getD] at h
        rcases Nat.lt_or_ge j i with hj | hj
        · rw [List.getElem?_append_left (by omega), ← List.getD_eq_getElem?_getD] at h
          exact Nat.lt_succ_of_lt (hbits _ _ h)
        · rcases Nat.eq_or_lt_of_le hj with rfl | hj
          · rw [List.getElem?_append_right (by omega), hlen, Nat.sub_self] at h
            obtain ⟨e, h1, h2, h3⟩ := ancOf_bit (j := b) h
            rcases h3 with rfl | h3
            · exact Nat.lt_succ_of_lt (hed e h1 h2)
            · exact Nat.lt_succ_of_lt (hbits _ _ h3)
          · rw [List.getElem?_eq_none (by simp; omega)] at h; simp at h
      have hput : ∀ v T', aput T n o.dst v = some T' → ∀ t k, dx.get t = some k → i + 1 ≤ k → T'.get t = T0 t := fun v T' hT t k hk hik => by
        rw [aput_get hT, if_neg]
        · exact hT0 t k hk (by omega)
        · intro hd2
          rw [hdx i o t ho hd2] at hk; cases hk; omega
      have ih := fun m u pend T H out hA hT0 => passA_ok hdx os (i + 1) (ancs ++ [ancOf ancs o]) m u pend T H out hA hT0 hd' hlen' hbits'
      split at e
      · rename_i hw
        split at e
        · rename_i T' hT
          have h := ih _ _ _ _ _ _ hA (hput _ _ hT) e
          obtain ⟨c1, c2, c3, c4, c5, c6, c7⟩ := h.step hdx hlen hbits ho hed hA hT0 hT
          refine ⟨c1, c3, fun k p hk hp => ?_, h.held, h.chain, fun e he => let ⟨a1, a2, a3⟩ := h.effs e he; ⟨by omega, a2, a3⟩, h.pair, h.keys⟩
          rcases Nat.eq_or_lt_of_le hk with rfl | hk
          · rw [ho] at hp; cases hp
            exact ⟨hed, c6, c7, .inl ⟨by rw [← c5]; exact hw, c4⟩⟩
          · exact h.ops k p hk hp
        · cases e
      · rename_i hw
        cases ha : isAlloc o.op with
        | true =>
          rw [ha, cond_true] at e
          split at e
          · rename_i v b hv
            split at e
            · rename_i T' hT
              have h := ih _ _ _ _ _ _ hA (hput _ _ hT) e
              obtain ⟨c1, c2, c3, c4, c5, c6, c7⟩ := h.step hdx hlen hbits ho hed hA hT0 hT
              refine ⟨c1, c3, fun k p hk hp => ?_, fun x hx => h.held x (by simp [hx]), h.chain, fun e he => let ⟨a1, a2, a3⟩ := h.effs e he; ⟨by omega, a2, a3⟩, h.pair, fun x hx => ?_⟩
              · rcases Nat.eq_or_lt_of_le hk with rfl | hk
                · rw [ho] at hp; cases hp
                  exact ⟨hed, c6, c7, .inr (.inl ⟨by rw [← c5]; exact hw, ha, v, b, by rw [← c5]; exact hv, c4, h.held _ (by simp)⟩)⟩
                · exact h.ops k p hk hp
              · rcases h.keys x hx with hx | hx
                · rcases List.mem_cons.1 hx with rfl | hx
                  · exact .inr ⟨o, ho, by rw [← c5]; exact hw, ha⟩
                  · exact .inl hx
                · exact .inr hx
            · cases e
          · cases e
        | false =>
          rw [ha, cond_false] at e
          cases hf : (isPure o.op || isReader E o.op) with
          | true =>
            rw [hf, cond_true] at e
            split at e
            · rename_i v K hv
              split at e
              · rename_i T' hT
                have h := ih _ _ _ _ _ _ hA (hput _ _ hT) e
                obtain ⟨c1, c2, c3, c4, c5, c6, c7⟩ := h.step hdx hlen hbits ho hed hA hT0 hT
                refine ⟨c1, c3, fun k p hk hp => ?_, h.held, h.chain, fun e he => let ⟨a1, a2, a3⟩ := h.effs e he; ⟨by omega, a2, a3⟩, h.pair, h.keys⟩
                rcases Nat.eq_or_lt_of_le hk with rfl | hk
                · rw [ho] at hp; cases hp
                  exact ⟨hed, c6, c7, .inr (.inr (.inl ⟨by rw [← c5]; exact hw, ha, hf, v, H, K, by rw [← c5]; exact hv, c4⟩))⟩
                · exact h.ops k p hk hp
              · cases e
            · cases e
          | false =>
            rw [hf, cond_false] at e
            cases hm : Nat.beq (ancOf ancs o &&& m) m with
            | false => rw [hm] at e; cases e
            | true =>
              rw [hm, cond_true] at e
              have hm' := Nat.eq_of_beq_eq_true hm
              split at e
              · rename_i v K hv
                split at e
                · rename_i T' hT
                  split at e
                  · rename_i out' he'
                    cases e
                    have hA' : ∀ j, Al.getD j 0 = out'.A j := hA
                    have h := ih _ _ _ _ _ _ hA' (hput _ _ hT) he'
                    obtain ⟨c1, c2, c3, c4, c5, c6, c7⟩ := h.step hdx hlen hbits ho hed hA' hT0 hT
                    have hL : ∀ x, x ∈ out'.L → x ∈ (⟨⟨i, m, u, H, pend.filter fun x => (ancOf ancs o).testBit x.1, K⟩ :: out'.effs, out'.pend, out'.before, out'.ups, out'.ancs, out'.T, out'.H⟩ : DOut).L := fun x hx => by
                      simp only [DOut.L, List.flatMap_cons, List.append_assoc, List.mem_append] at hx ⊢
                      exact .inr hx
                    refine ⟨c1, c3, fun k p hk hp => ?_, fun x hx => ?_, ⟨rfl, rfl, rfl, ?_⟩, fun e he => ?_, ?_, fun x hx => ?_⟩
                    · rcases Nat.eq_or_lt_of_le hk with rfl | hk
                      · exact ⟨by rw [ho] at hp; cases hp; exact hed, by rw [ho] at hp; cases hp; exact c6, c7, .inr (.inr (.inr ⟨_, List.mem_cons_self, rfl⟩))⟩
                      · exact (h.ops k p hk hp).mono (fun e he => List.mem_cons_of_mem _ he) hL
                    · cases hx2 : (ancOf ancs o).testBit x.1 with
                      | true => simp only [DOut.L, List.flatMap_cons, List.append_assoc, List.mem_append]; exact .inl (List.mem_filter.2 ⟨hx, hx2⟩)
                      | false => exact hL x (h.held x (List.mem_filter.2 ⟨hx, by rw [hx2]; rfl⟩))
                    · have := h.chain
                      rw [← c2] at this
                      exact this
                    · rcases List.mem_cons.1 he with rfl | he
                      · refine ⟨Nat.le_refl _, ⟨⟨o, ho, by rw [← hw, c5]; rfl, ha, hf, v, by rw [← hv, c5]; rfl, c4⟩, fun x hx => ?_⟩, fun j hj => ?_⟩
                        · have := (List.mem_filter.1 hx).2
                          rw [← c2] at this; exact this
                        · have : (ancOf ancs o &&& m).testBit j = true := by rw [hm']; exact hj
                          rw [Nat.testBit_and, Bool.and_eq_true] at this
                          rw [← c2] at this
                          exact this.1
                      · obtain ⟨a1, a2, a3⟩ := h.effs e he
                        exact ⟨by omega, a2, fun j hj => a3 j (by rw [Nat.testBit_or, hj]; rfl)⟩
                    · refine List.Pairwise.cons (fun e he => ?_) h.pair
                      exact (h.effs e he).2.2 i (by rw [Nat.testBit_or, Nat.testBit_two_pow]; simp)
                    · simp only [DOut.L, List.flatMap_cons, List.append_assoc, List.mem_append] at hx
                      rcases hx with hx | hx
                      · exact .inl (List.mem_filter.1 hx).1
                      · rcases h.keys x (by simpa [DOut.L] using hx) with hx | hx
                        · exact .inl (List.mem_filter.1 hx).1
                        · exact .inr hx
                  · cases e
                · cases e
              · cases e
      · cases e
end
end AM
end Go.Proofs.YtoicnghjjgkebaaGreatDoor
namespace Go.Proofs.YtoicnghjjgkebaaGreatDoor
namespace AM
open Go.RowKit
variable [Toks]

section
variable {P : Program} {E : Env} {Q : Eqs} {call : ACall} {round : ARound} {n : Nat} {all : List Oper} {dx : Tri Nat} {T0 : Nat → Option Value} {N0 : Nat}
theorem dxOk_ok {n : Nat} : ∀ (os : List Oper) (i : Nat), all.drop i = os → dxOk dx n os i = true → ∀ k o d, i ≤ k → all[k]? = some o → o.dst = some d → d < n ∧ dx.get d = some k
  | [], i, hd, _, k, o, d, hk, ho, _ => by
    have : all.length ≤ i := List.drop_eq_nil_iff.1 hd
    have := (List.getElem?_eq_some_iff.1 ho).1
    omega
  | p :: os, i, hd, h, k, o, d, hk, ho, hod => by
    simp only [dxOk, Bool.and_eq_true] at h
    have hp : all[i]? = some p := by
      have := List.getElem?_drop (xs := all) (i := i) (j := 0)
      rw [hd] at this
      simpa using this.symm
    rcases Nat.eq_or_lt_of_le hk with rfl | hk
    · rw [hp] at ho; cases ho
      have h1 := h.1
      rw [hod] at h1
      simp only [Bool.and_eq_true] at h1
      refine ⟨Nat.le_of_ble_eq_true h1.1, ?_⟩
      have h2 := h1.2
      split at h2
      · rename_i j hj; rw [hj, Nat.eq_of_beq_eq_true h2]
      · cases h2
    · exact dxOk_ok os (i + 1) (by rw [← List.drop_drop, hd]; rfl) h.2 k o d hk ho hod
theorem dxOf_ok {n : Nat} (hn : n < 1048575) : ∀ (os : List Oper) (i : Nat) (D : Tri Nat), (∀ o ∈ os, ∀ d, o.dst = some d → d < n) → ∀ t k, (dxOf os i D).get t = some k → D.get t = some k ∨ ∃ o, i ≤ k ∧ os[k - i]? = some o ∧ o.dst = some t
  | [], i, D, _, t, k, h => .inl h
  | o :: os, i, D, hb, t, k, h => by
    rw [dxOf] at h
    have fin : ∀ D', (dxOf os (i + 1) D').get t = some k → D'.get t = some k ∨ ∃ o', i ≤ k ∧ (o :: os)[k - i]? = some o' ∧ o'.dst = some t := fun D' h' => by
      rcases dxOf_ok hn os (i + 1) D' (fun o ho => hb o (by simp [ho])) t k h' with h1 | ⟨o', h1, h2, h3⟩
      · exact .inl h1
      · refine .inr ⟨o', by omega, ?_, h3⟩
        rw [show k - i = (k - (i + 1)) + 1 by omega]; exact h2
    split at h
    · rename_i d hd
      rcases fin _ h with h1 | h1
      · have hdn := hb o (by simp) d hd
        rw [Tri.get_set 20 D d t i (Nat.lt_of_le_of_lt (Nat.succ_le_of_lt hdn) (Nat.lt_trans hn (by decide)))] at h1
        by_cases e : t = d
        · rw [if_pos e] at h1; cases h1
          exact .inr ⟨o, Nat.le_refl _, by rw [Nat.sub_self]; rfl, by rw [hd, e]⟩
        · rw [if_neg e] at h1; exact .inl h1
      · exact .inr h1
    · exact fin _ h
theorem passB_ok {hs : List (Nat × Nat × AH)} {effall : Nat} {ancs : List Nat} {T0 T : Tri Value} : ∀ (os : List Oper) (i : Nat), all.drop i = os → passB P E Q call round all dx hs effall ancs T0 T os i = true →
    ∀ k o, i ≤ k → all[k]? = some o → isReader E o.op = true → awant all (sf dx (fun j => ancs.getD j 0) k T0.get T.get) o = some true → ∀ m u H, (m, u, H) ∈ hs → (ancs.getD k 0 &&& effall) ||| m = m → u.testBit k = false →
      ∃ v K, aoper1 P E Q call round (sf dx (fun j => ancs.getD j 0) k T0.get T.get) H o = some (v, K) ∧ PutIn T.get o v
  | [], i, hd, _, k, o, hk, ho => by
    have : all.length ≤ i := List.drop_eq_nil_iff.1 hd
    have := (List.getElem?_eq_some_iff.1 ho).1
    omega
  | p :: os, i, hd, h, k, o, hk, ho => by
    intro hr hw m u H hm h1 h2
    simp only [passB, Bool.and_eq_true] at h
    have hp : all[i]? = some p := by
      have := List.getElem?_drop (xs := all) (i := i) (j := 0)
      rw [hd] at this
      simpa using this.symm
    rcases Nat.eq_or_lt_of_le hk with rfl | hk
    · rw [hp] at ho; cases ho
      have g := h.1
      rw [hr, cond_true, hw] at g
      have g := List.all_eq_true.1 g _ hm
      dsimp only at g
      rw [h1, h2, show Nat.beq m m = true from Nat.beq_refl m] at g
      simp only [Bool.not_false, Bool.and_self, cond_true] at g
      split at g
      · rename_i v K hv
        refine ⟨v, K, hv, fun d hd => ?_⟩
        rw [hd] at g
        simp only at g
        split at g
        · rename_i v' hv'
          rw [hv', veq_ok _ _ _ g]
        · cases g
      · cases g
    · exact passB_ok os (i + 1) (by rw [← List.drop_drop, hd]; rfl) h.2 k o hk ho hr hw m u H hm h1 h2
theorem distinctB_ok : ∀ l : List (Nat × Blk), distinctB l = true → l.Pairwise fun x y => x.1 ≠ y.1
  | [], _ => .nil
  | x :: l, h => by
    simp only [distinctB, Bool.and_eq_true] at h
    refine .cons (fun y hy e => ?_) (distinctB_ok l h.2)
    have := List.all_eq_true.1 h.1 y hy
    rw [e, show Nat.beq y.1 y.1 = true from Nat.beq_refl _] at this
    cases this
theorem keys_uniq : ∀ l : List (Nat × Blk), l.Pairwise (fun x y => x.1 ≠ y.1) → ∀ x ∈ l, ∀ y ∈ l, x.1 = y.1 → x = y
  | [], _, x, hx, _, _, _ => by simp at hx
  | z :: l, h, x, hx, y, hy, e => by
    obtain ⟨h1, h2⟩ := List.pairwise_cons.1 h
    rcases List.mem_cons.1 hx with hx | hx <;> rcases List.mem_cons.1 hy with hy | hy
    · rw [hx, hy]
    · rw [hx] at e; exact absurd e (h1 y hy)
    · rw [hy] at e; exact absurd e.symm (h1 x hx)
    · exact keys_uniq l h2 x hx y hy e
/-! ### Slots -/
structure Slots (all : List Oper) (dx : Tri Nat) (T0 Tf : Nat → Option Value) (n : Nat) (D : List Deferred) (S : Nat → Prop) (μ : Mp) (a : Act) : Prop where
  size : a.tmps.size = n
  defers : a.defers = D
  outer : ∀ t v, dx.get t = none → Tf t = some v → ∃ v', a.tmps[t]? = some v' ∧ VR μ v v'
  slots : ∀ k o t v, S k → all[k]? = some o → o.dst = some t → Tf t = some v → ∃ v', a.tmps[t]? = some v' ∧ VR μ v v'
  old : ∀ k t v, ¬ S k → dx.get t = some k → T0 t = some v → ∃ v', a.tmps[t]? = some v' ∧ VR μ v v'
theorem Slots.mono {Tf : Nat → Option Value} {D : List Deferred} {S : Nat → Prop} {μ ν : Mp} {a : Act} (h : Slots all dx T0 Tf n D S μ a) (hs : μ.sub ν) : Slots all dx T0 Tf n D S ν a :=
  ⟨h.size, h.defers, fun t v h1 h2 => let ⟨v', h3, h4⟩ := h.outer t v h1 h2; ⟨v', h3, h4.monoS hs⟩, fun k o t v h0 h1 h2 h5 => let ⟨v', h3, h4⟩ := h.slots k o t v h0 h1 h2 h5; ⟨v', h3, h4.monoS hs⟩, fun k t v h0 h1 h2 => let ⟨v', h3, h4⟩ := h.old k t v h0 h1 h2; ⟨v', h3, h4.monoS hs⟩⟩
theorem Slots.put {Tf : Nat → Option Value} {D : List Deferred} {S : Nat → Prop} {μ : Mp} {a : Act} (h : Slots all dx T0 Tf n D S μ a) (hdx : ∀ k o d, all[k]? = some o → o.dst = some d → d < n ∧ dx.get d = some k) {i : Nat} {o : Oper} (ho : all[i]? = some o) (hi : ¬ S i) {v v' : Value} (hv : VR μ v v') (hp : PutIn Tf o v) :
    Slots all dx T0 Tf n D (fun k => S k ∨ k = i) μ (a.put o.dst v') := by
  have get : ∀ t, o.dst ≠ some t → (a.put o.dst v').tmps[t]? = a.tmps[t]? := fun t ht => by
    unfold Act.put
    cases hd : o.dst with
    | none => rfl
    | some d =>
      show (a.tmps.setIfInBounds d v')[t]? = _
      rw [Array.getElem?_setIfInBounds, if_neg (by rintro rfl; exact ht hd)]
  refine ⟨?_, ?_, ?_, ?_, ?_⟩
  · unfold Act.put; cases o.dst <;> simp [h.size]
  · rw [← h.defers]; unfold Act.put; cases o.dst <;> rfl
  · intro t u h1 h2
    rw [get t (fun hd => by rw [(hdx i o t ho hd).2] at h1; cases h1)]
    exact h.outer t u h1 h2
  · intro k p t u hk hp' hd hu
    rcases hk with hk | rfl
    · rw [get t (fun hd2 => by
        have e1 := (hdx i o t ho hd2).2
        have e2 := (hdx k p t hp' hd).2
        rw [e1] at e2; cases e2; exact hi hk)]
      exact h.slots k p t u hk hp' hd hu
    · rw [ho] at hp'; cases hp'
      have e := hp t hd
      rw [hu] at e; cases e
      refine ⟨v', ?_, hv⟩
      rw [hd]
      show (a.tmps.setIfInBounds t v')[t]? = _
      rw [Array.getElem?_setIfInBounds, if_pos rfl, if_pos (by rw [h.size]; exact (hdx k o t ho hd).1)]
  · intro k t u hk hd hu
    rw [get t (fun hd2 => by
      rw [(hdx i o t ho hd2).2] at hd; cases hd; exact hk (.inr rfl))]
    exact h.old k t u (fun h => hk (.inl h)) hd hu
theorem Slots.tr {Tf : Nat → Option Value} {D : List Deferred} {S : Nat → Prop} {μ : Mp} {a : Act} (h : Slots all dx T0 Tf n D S μ a) (hrev : ∀ t k, dx.get t = some k → ∃ o, all[k]? = some o ∧ o.dst = some t) {A : Nat → Nat} {i : Nat} (ha : ∀ j, (A i).testBit j = true → S j) (hb : ∀ k, (A k).testBit i = true → ¬ S k) : TR μ (sf dx A i T0 Tf) a.tmps := by
  intro t v e
  unfold sf at e
  split at e
  · rename_i k hk
    cases h1 : (A i).testBit k with
    | true =>
      rw [h1, cond_true] at e
      obtain ⟨o, h2, h3⟩ := hrev t k hk
      exact h.slots k o t v (ha k h1) h2 h3 e
    | false =>
      rw [h1, cond_false] at e
      cases h2 : (Nat.blt i k && (A k).testBit i) with
      | false => rw [h2] at e; cases e
      | true =>
        rw [h2, cond_true] at e
        rw [Bool.and_eq_true] at h2
        exact h.old k t v (hb k h2.2) hk e
  · rename_i hk
    exact h.outer t v hk e
/-! ### Memory -/
def Held (N0 : Nat) (b0 b : Base) (μ : Mp) (w : World) (x : Nat × Blk) : Prop := ∃ g s o, μ (N0 + x.1) = some (g, s) ∧ b.B g ∧ ¬ b0.B g ∧ ¬ b0.L g ∧ w.heap[g]? = some o ∧ BlkR μ s x.2 o ∧ x.2.own = true
def plOf (out : DOut) (R : List DEff) : List (Nat × Blk) := R.flatMap (·.ad) ++ out.pend
structure Mem (all : List Oper) (N0 : Nat) (out : DOut) (b0 : Base) (μ0 : Mp) (S : Nat → Prop) (μ : Mp) (m u : Nat) (Hc : AH) (R : List DEff) (b : Base) (w : World) : Prop where
  rel : Rel μ Hc b w
  under : Under b0 b
  le : μ0.le μ
  next : N0 + all.length ≤ Hc.next
  chain : Chain out.A m u Hc R out.before out.ups out.H
  suff : ∃ l, out.effs = l ++ R
  done : ∀ e ∈ out.effs, S e.i ∨ e ∈ R
  fresh : ∀ e ∈ R, ¬ S e.i
  ups : ∀ k, u.testBit k = true → S k
  edges : ∀ k, S k → ∀ j, (out.A k).testBit j = true → S j
  unm : ∀ k, k < all.length → ¬ S k → μ (N0 + k) = none
  held : ∀ x ∈ plOf out R, S x.1 → Held N0 b0 b μ w x
  apart : ∀ x ∈ plOf out R, ∀ y ∈ plOf out R, S x.1 → S y.1 → x.1 ≠ y.1 → ∀ g s g' s', μ (N0 + x.1) = some (g, s) → μ (N0 + y.1) = some (g', s') → g ≠ g'
theorem Held.world {b0 b : Base} {μ ν : Mp} {w w' : World} {x : Nat × Blk} (h : Held N0 b0 b μ w x) (hs : μ.sub ν) (hk : ∀ g, b.B g → w'.heap[g]? = w.heap[g]?) : Held N0 b0 b ν w' x := by
  obtain ⟨g, s, o, h1, h2, h3, h4, h5, h6, h7⟩ := h
  exact ⟨g, s, o, hs _ _ h1, h2, h3, h4, by rw [hk g h2]; exact h5, h6.monoS hs, h7⟩
theorem Mem.world {out : DOut} {b0 : Base} {μ0 : Mp} {S : Nat → Prop} {μ ν : Mp} {m u : Nat} {Hc : AH} {R : List DEff} {b : Base} {w w' : World} (h : Mem all N0 out b0 μ0 S μ m u Hc R b w) (hle : μ.le ν) (hr : Rel ν Hc b w') : Mem all N0 out b0 μ0 S ν m u Hc R b w' := by
  refine ⟨hr, h.under, h.le.trans hle, h.next, h.chain, h.suff, h.done, h.fresh, h.ups, h.edges, fun k hk hS => ?_, fun x hx hS => (h.held x hx hS).world hle.sub fun g hg => by rw [hr.keep g hg, h.rel.keep g hg], fun x hx y hy hSx hSy hne g s g' s' e1 e2 => ?_⟩
  · rw [hle.2 _ (by rw [h.rel.num]; have := h.next; omega)]; exact h.unm k hk hS
  · obtain ⟨g1, s1, _, f1, _⟩ := h.held x hx hSx
    obtain ⟨g2, s2, _, f2, _⟩ := h.held y hy hSy
    rw [hle.sub _ _ f1] at e1; cases e1
    rw [hle.sub _ _ f2] at e2; cases e2
    exact h.apart x hx y hy hSx hSy hne _ _ _ _ f1 f2
theorem Mem.more {out : DOut} {b0 : Base} {μ0 : Mp} {S : Nat → Prop} {μ : Mp} {m u : Nat} {Hc : AH} {R : List DEff} {b : Base} {w : World} (h : Mem all N0 out b0 μ0 S μ m u Hc R b w) {i : Nat} (hanc : ∀ j, (out.A i).testBit j = true → S j) (hx : ∀ x ∈ plOf out R, x.1 ≠ i) (he : ∀ e ∈ R, e.i ≠ i) :
    Mem all N0 out b0 μ0 (fun k => S k ∨ k = i) μ m u Hc R b w :=
  ⟨h.rel, h.under, h.le, h.next, h.chain, h.suff, fun e he => (h.done e he).imp .inl id, fun e he' hS => hS.elim (h.fresh e he') (he e he'), fun k hk => .inl (h.ups k hk),
   fun k hk j hj => hk.elim (fun hk => .inl (h.edges k hk j hj)) (fun e => .inl (hanc j (e ▸ hj))), fun k hk hS => h.unm k hk (fun hs => hS (.inl hs)),
   fun x hx' hS => h.held x hx' (hS.resolve_right (hx x hx')), fun x hx' y hy hSx hSy => h.apart x hx' y hy (hSx.resolve_right (hx x hx')) (hSy.resolve_right (hx y hy))⟩
/-- A block is laid ahead of its turn. -/
theorem Mem.lay {out : DOut} {b0 : Base} {μ0 : Mp} {S : Nat → Prop} {μ : Mp} {m u : Nat} {Hc : AH} {R : List DEff} {b : Base} {w : World} (h : Mem all N0 out b0 μ0 S μ m u Hc R b w) (hd : (plOf out R).Pairwise fun x y => x.1 ≠ y.1) (hμ0 : μ0.N ≤ N0) {i : Nat} {c : Blk} {ob : Obj} {s : Nat} (hi : i < all.length) (hanc : ∀ j, (out.A i).testBit j = true → S j) (hS : ¬ S i) (hx : (i, c) ∈ plOf out R) (he : ∀ e ∈ R, e.i ≠ i) (hr : BlkR μ s c ob) (hc : c.own = true) :
    ∃ ν b', μ.sub ν ∧ ν (N0 + i) = some (w.heap.size, s) ∧ Mem all N0 out b0 μ0 (fun k => S k ∨ k = i) ν m u Hc R b' (w.alloc ob) := by
  have hid : N0 + i < μ.N := by rw [h.rel.num]; have := h.next; omega
  have h0 := h.unm i hi hS
  have hs := Mp.at_sub μ (w.heap.size, s) hid h0
  have hz : (w.alloc ob).heap.size = w.heap.size + 1 := by simp
  have uniq : ∀ x ∈ plOf out R, x.1 = i → x = (i, c) := fun x hx' e => keys_uniq _ hd x hx' (i, c) hx e
  refine ⟨μ.at (N0 + i) (w.heap.size, s) hid h0, b.lay w ob h.rel.size, hs, Mp.at_self _ _ _ _ _, ?_⟩
  have old : ∀ x ∈ plOf out R, S x.1 → ∃ g s', μ (N0 + x.1) = some (g, s') ∧ g < w.heap.size := fun x hx' hSx => by
    obtain ⟨g, s', o, h1, _, _, _, h5, _⟩ := h.held x hx' hSx
    exact ⟨g, s', h1, (Array.getElem?_eq_some_iff.1 h5).1⟩
  refine ⟨(h.rel.lay ob).remap hid h0, h.under.lay h.rel ob, ⟨h.le.1, fun k hk => ?_⟩, h.next, h.chain, h.suff, fun e he => (h.done e he).imp .inl id, fun e he' hS => hS.elim (h.fresh e he') (he e he'), fun k hk => .inl (h.ups k hk),
   fun k hk j hj => hk.elim (fun hk => .inl (h.edges k hk j hj)) (fun e => .inl (hanc j (e ▸ hj))), fun k hk hSk => ?_, fun x hx' hSx => ?_, fun x hx' y hy hSx hSy hne g s1 g' s2 e1 e2 => ?_⟩
  · rw [Mp.at_ne _ _ _ _ (by omega)]; exact h.le.2 k hk
  · rw [Mp.at_ne _ _ _ _ (fun e => hSk (.inr (by omega)))]; exact h.unm k hk (fun hs => hSk (.inl hs))
  · rcases hSx with hSx | e
    · obtain ⟨g, s', o, h1, h2, h3, h4, h5, h6, h7⟩ := h.held x hx' hSx
      exact ⟨g, s', o, hs _ _ h1, .inl h2, h3, h4, by rw [Below.heap_alloc _ _ _ (Array.getElem?_eq_some_iff.1 h5).1]; exact h5, h6.monoS hs, h7⟩
    · rw [uniq x hx' e]
      have h1 := h.under.size
      have h2 := h.rel.size
      exact ⟨w.heap.size, s, ob, Mp.at_self _ _ _ _ _, .inr rfl, fun hB => by have := b0.bound _ hB; omega, fun hB => by have := b0.lbound _ hB; omega, Array.getElem?_push_size, hr.monoS hs, hc⟩
  · rcases hSx with hSx | ex <;> rcases hSy with hSy | ey
    · have ne : ∀ z, S z → z ≠ i := fun z hz e => hS (e ▸ hz)
      rw [Mp.at_ne _ _ _ _ (fun e => ne _ hSx (by omega))] at e1
      rw [Mp.at_ne _ _ _ _ (fun e => ne _ hSy (by omega))] at e2
      exact h.apart x hx' y hy hSx hSy hne _ _ _ _ e1 e2
    · obtain ⟨g1, s3, f1, f2⟩ := old x hx' hSx
      rw [hs _ _ f1] at e1; cases e1
      rw [ey, Mp.at_self] at e2; cases e2
      omega
    · obtain ⟨g1, s3, f1, f2⟩ := old y hy hSy
      rw [hs _ _ f1] at e2; cases e2
      rw [ex, Mp.at_self] at e1; cases e1
      omega
    · exact absurd (ex.trans ey.symm) hne
/-- Blocks come into their own. -/
theorem adopt_list {b0 : Base} {μ : Mp} {w : World} {K : Nat} : ∀ (l : List (Nat × Blk)) (rest : List (Nat × Blk)) (Hc : AH) (b : Base), Rel μ Hc b w → Under b0 b → K ≤ Hc.next → (∀ x ∈ l, N0 + x.1 < K) → (∀ x ∈ l, Held N0 b0 b μ w x) → (l ++ rest).Pairwise (fun x y => x.1 ≠ y.1) →
    ∀ S : Nat → Prop, (∀ x ∈ l, S x.1) → (∀ x ∈ rest, S x.1 → Held N0 b0 b μ w x) → (∀ x ∈ l ++ rest, ∀ y ∈ l ++ rest, S x.1 → S y.1 → x.1 ≠ y.1 → ∀ g s g' s', μ (N0 + x.1) = some (g, s) → μ (N0 + y.1) = some (g', s') → g ≠ g') →
    ∃ b', Rel μ (adopt N0 Hc l) b' w ∧ Under b0 b' ∧ (adopt N0 Hc l).next = Hc.next ∧ ∀ x ∈ rest, S x.1 → Held N0 b0 b' μ w x
  | [], rest, Hc, b, hr, hu, _, _, _, _, S, _, hrest, _ => ⟨b, hr, hu, rfl, hrest⟩
  | x :: l, rest, Hc, b, hr, hu, hK, hlt, hl, hd, S, hS, hrest, hap => by
    obtain ⟨g, s, o, h1, h2, h3, h4, h5, h6, h7⟩ := hl x (by simp)
    have hf := hr.adopt (id := N0 + x.1) (Nat.lt_of_lt_of_le (hlt x (by simp)) hK) h1 h5 h6 h7 h2 (by rw [hu.L]; exact h4)
    rw [List.cons_append] at hd hap
    have hd1 := (List.pairwise_cons.1 hd).1
    have free : ∀ y ∈ l ++ rest, S y.1 → Held N0 b0 b μ w y → Held N0 b0 (b.free g) μ w y := fun y hy hSy hh => by
      obtain ⟨g', s', o', k1, k2, k3⟩ := hh
      exact ⟨g', s', o', k1, ⟨k2, fun e => hap x (by simp) y (by simp [List.mem_append.1 hy]) (hS x (by simp)) hSy (hd1 y hy) g s g' s' h1 k1 e.symm⟩, k3⟩
    exact adopt_list l rest (Hc.put (N0 + x.1) x.2) (b.free g) hf (hu.free h3) hK (fun y hy => hlt y (by simp [hy])) (fun y hy => free y (by simp [hy]) (hS y (by simp [hy])) (hl y (by simp [hy]))) (List.pairwise_cons.1 hd).2 S (fun y hy => hS y (by simp [hy]))
      (fun y hy hSy => free y (by simp [hy]) hSy (hrest y hy hSy)) (fun y hy z hz => hap y (List.mem_cons_of_mem _ hy) z (List.mem_cons_of_mem _ hz))
end
end AM
end Go.Proofs.YtoicnghjjgkebaaGreatDoor
