/-
  The abstract machine: the operations of a statement whose order is drawn: what was computed of them. No condition.
-/
import Derived.Test.YtccnkkffeokgcaaGreatDoorV21
namespace Go.Proofs.YtccnkkffeokgcaaGreatDoor
namespace AM
open Go.RowKit

section
variable {P : Program} {E : Env} {Q : Eqs} {call : ACall} {round : ARound} {n : Nat} {all : List Oper} {dx : Tri Nat} {T0 : Nat → Option Value} {Al : List Nat} {N0 : Nat}
def PutIn (Tf : Nat → Option Value) (o : Oper) (v : Value) : Prop := ∀ d, o.dst = some d → Tf d = some v
structure EffFact (P : Program) (E : Env) (Q : Eqs) (call : ACall) (round : ARound) (all : List Oper) (dx : Tri Nat) (T0 : Nat → Option Value) (N0 : Nat) (A : Nat → Nat) (Tf : Nat → Option Value) (e : DEff) : Prop where
  op : ∃ o, all[e.i]? = some o ∧ awant all (sf dx A e.i T0 Tf) o = some true ∧ isAlloc o.op = false ∧ (isPure o.op || isReader E o.op) = false ∧
    ∃ v, aoper1 P E Q call round (sf dx A e.i T0 Tf) (adopt N0 e.H e.ad) o = some (v, e.H') ∧ PutIn Tf o v
  ad : ∀ x ∈ e.ad, (A e.i).testBit x.1 = true
structure OpFact (P : Program) (E : Env) (Q : Eqs) (call : ACall) (round : ARound) (all : List Oper) (dx : Tri Nat) (T0 : Nat → Option Value) (N0 : Nat) (A : Nat → Nat) (Tf : Nat → Option Value) (effs : List DEff) (L : List (Nat × Blk)) (k : Nat) (o : Oper) : Prop where
  edges : ∀ e ∈ o.after, Region.binds .any e = true → e.on < k
  anc : ∀ j, (A k).testBit j = true → ∃ e ∈ o.after, Region.binds .any e = true ∧ (j = e.on ∨ (A e.on).testBit j = true)
  low : ∀ j, (A k).testBit j = true → j < k
  kind : (awant all (sf dx A k T0 Tf) o = some false ∧ PutIn Tf o undef) ∨
    (awant all (sf dx A k T0 Tf) o = some true ∧ isAlloc o.op = true ∧ ∃ v b, aallocB E (sf dx A k T0 Tf) (N0 + k) o.op = some (v, b) ∧ PutIn Tf o v ∧ (k, b) ∈ L) ∨
    (awant all (sf dx A k T0 Tf) o = some true ∧ isAlloc o.op = false ∧ (isPure o.op || isReader E o.op) = true ∧ ∃ v H K, aoper1 P E Q call round (sf dx A k T0 Tf) H o = some (v, K) ∧ PutIn Tf o v) ∨
    (∃ e ∈ effs, e.i = k)
theorem OpFact.mono {A : Nat → Nat} {Tf : Nat → Option Value} {effs effs' : List DEff} {L L' : List (Nat × Blk)} {k : Nat} {o : Oper} (h : OpFact P E Q call round all dx T0 N0 A Tf effs L k o) (h1 : ∀ e ∈ effs, e ∈ effs') (h2 : ∀ x ∈ L, x ∈ L') : OpFact P E Q call round all dx T0 N0 A Tf effs' L' k o := by
  refine ⟨h.edges, h.anc, h.low, ?_⟩
  rcases h.kind with h | ⟨a1, a2, v, b, a3, a4, a5⟩ | h | ⟨e, he, hk⟩
  · exact .inl h
  · exact .inr (.inl ⟨a1, a2, v, b, a3, a4, h2 _ a5⟩)
  · exact .inr (.inr (.inl h))
  · exact .inr (.inr (.inr ⟨e, h1 e he, hk⟩))
def Chain (A : Nat → Nat) : Nat → Nat → AH → List DEff → Nat → Nat → AH → Prop
  | m, u, H, [], m', u', H' => m = m' ∧ u = u' ∧ H = H'
  | m, u, H, e :: es, m', u', H' => e.before = m ∧ e.ups = u ∧ e.H = H ∧ Chain A (m ||| 2 ^ e.i) (u ||| A e.i) e.H' es m' u' H'
def DOut.A (out : DOut) (j : Nat) : Nat := out.ancs.getD j 0
def DOut.L (out : DOut) : List (Nat × Blk) := out.effs.flatMap (·.ad) ++ out.pend
structure PassOk (P : Program) (E : Env) (Q : Eqs) (call : ACall) (round : ARound) (all : List Oper) (dx : Tri Nat) (T0 : Nat → Option Value) (N0 : Nat) (i : Nat) (ancs : List Nat) (m u : Nat) (pend : List (Nat × Blk)) (T : Tri Value) (H : AH) (out : DOut) : Prop where
  ancs : ∀ j, j < i → out.ancs.getD j 0 = ancs.getD j 0
  slots : ∀ t, (dx.get t = none ∨ ∃ k, k < i ∧ dx.get t = some k) → out.T.get t = T.get t
  ops : ∀ k o, i ≤ k → all[k]? = some o → OpFact P E Q call round all dx T0 N0 out.A out.T.get out.effs out.L k o
  held : ∀ x ∈ pend, x ∈ out.L
  chain : Chain out.A m u H out.effs out.before out.ups out.H
  effs : ∀ e ∈ out.effs, i ≤ e.i ∧ EffFact P E Q call round all dx T0 N0 out.A out.T.get e ∧ ∀ j, m.testBit j = true → (out.A e.i).testBit j = true
  pair : out.effs.Pairwise fun e' e => (out.A e.i).testBit e'.i = true
  keys : ∀ x ∈ out.L, x ∈ pend ∨ ∃ o, all[x.1]? = some o ∧ awant all (sf dx out.A x.1 T0 out.T.get) o = some true ∧ isAlloc o.op = true
theorem aput_get {T T' : Tri Value} {dst : Option Tmp} {v : Value} (e : aput T n dst v = some T') (t : Nat) : T'.get t = if dst = some t then some v else T.get t := by
  unfold aput at e
  split at e
  · cases e; rfl
  · rename_i d
    cases hb : (Nat.blt d n && Nat.blt n 1048575) with
    | false => rw [hb] at e; cases e
    | true =>
      rw [hb, cond_true] at e
      cases e
      simp only [Bool.and_eq_true] at hb
      have h1 : d < n := Nat.le_of_ble_eq_true hb.1
      have h2 : n < 1048575 := Nat.le_of_ble_eq_true hb.2
      rw [Tri.get_set 20 T d t v (Nat.lt_of_le_of_lt (Nat.succ_le_of_lt h1) (Nat.lt_trans h2 (by decide)))]
      by_cases e2 : t = d
      · subst e2; simp
      · rw [if_neg e2, if_neg (fun h => e2 (Option.some.inj h).symm)]
theorem PassOk.step {i : Nat} {ancs : List Nat} {m' u' : Nat} {pend' : List (Nat × Blk)} {T T' : Tri Value} {H' : AH} {out : DOut} {o : Oper} {v : Value}
    (hdx : ∀ k o d, all[k]? = some o → o.dst = some d → dx.get d = some k) (hlen : ancs.length = i) (hbits : ∀ j b, (ancs.getD j 0).testBit b = true → b < i) (ho : all[i]? = some o)
    (hed : ∀ e ∈ o.after, Region.binds .any e = true → e.on < i)
    (hA : ∀ j, Al.getD j 0 = out.A j) (hT0 : ∀ t k, dx.get t = some k → i ≤ k → T.get t = T0 t)
    (hp : aput T n o.dst v = some T') (h : PassOk P E Q call round all dx T0 N0 (i + 1) (ancs ++ [ancOf ancs o]) m' u' pend' T' H' out) :
    (∀ j, j < i → out.ancs.getD j 0 = ancs.getD j 0) ∧ out.A i = ancOf ancs o ∧ (∀ t, (dx.get t = none ∨ ∃ k, k < i ∧ dx.get t = some k) → out.T.get t = T.get t) ∧ PutIn out.T.get o v ∧
    sl dx Al i (ancOf ancs o) T.get = sf dx out.A i T0 out.T.get ∧ (∀ j, (out.A i).testBit j = true → ∃ e ∈ o.after, Region.binds .any e = true ∧ (j = e.on ∨ (out.A e.on).testBit j = true)) ∧ (∀ j, (out.A i).testBit j = true → j < i) := by
  have c1 : ∀ j, j < i → out.ancs.getD j 0 = ancs.getD j 0 := fun j hj => by
    rw [h.ancs j (by omega), List.getD_eq_getElem?_getD, List.getElem?_append_left (by omega), ← List.getD_eq_getElem?_getD]
  have c1' : out.A i = ancOf ancs o := by
    unfold DOut.A
    rw [h.ancs i (by omega), List.getD_eq_getElem?_getD, List.getElem?_append_right (by omega), hlen, Nat.sub_self]; rfl
  have c2 : ∀ t, (dx.get t = none ∨ ∃ k, k < i ∧ dx.get t = some k) → out.T.get t = T.get t := fun t ht => by
    rw [h.slots t (by rcases ht with ht | ⟨k, hk, ht⟩; exact .inl ht; exact .inr ⟨k, by omega, ht⟩), aput_get hp, if_neg]
    intro hd
    have := hdx i o t ho hd
    rcases ht with ht | ⟨k, hk, ht⟩
    · rw [ht] at this; cases this
    · rw [ht] at this; cases this; omega
  have low : ∀ j, (ancOf ancs o).testBit j = true → j < i := fun j hj => by
    obtain ⟨e, h1, h2, h3⟩ := ancOf_bit hj
    rcases h3 with rfl | h3
    · exact hed e h1 h2
    · exact hbits _ _ h3
  refine ⟨c1, c1', c2, fun d hd => ?_, ?_, ?_, by rw [c1']; exact low⟩
  · rw [h.slots d (.inr ⟨i, by omega, hdx i o d ho hd⟩), aput_get hp, if_pos hd]
  · funext t
    unfold sl sf
    cases hd : dx.get t with
    | none => exact (c2 t (.inl hd)).symm
    | some k =>
      dsimp only
      cases hb : (ancOf ancs o).testBit k with
      | true => rw [c1', hb, Bool.true_or, cond_true, cond_true]; exact (c2 t (.inr ⟨k, low k hb, hd⟩)).symm
      | false =>
        rw [c1', hb, Bool.false_or, cond_false, hA]
        cases hb2 : (Nat.blt i k && (out.A k).testBit i) with
        | false => rfl
        | true =>
          rw [cond_true, cond_true]
          rw [Bool.and_eq_true] at hb2
          exact hT0 t k hd (Nat.le_of_lt (Nat.le_of_ble_eq_true hb2.1))
  · rw [c1']
    intro j hj
    obtain ⟨e, h1, h2, h3⟩ := ancOf_bit hj
    refine ⟨e, h1, h2, ?_⟩
    rcases h3 with h3 | h3
    · exact .inl h3
    · right; unfold DOut.A; rw [c1 _ (hed e h1 h2)]; exact h3
theorem passA_ok (hdx : ∀ k o d, all[k]? = some o → o.dst = some d → dx.get d = some k) : ∀ (os : List Oper) (i : Nat) (ancs : List Nat) (m u : Nat) (pend : List (Nat × Blk)) (T : Tri Value) (H : AH) (out : DOut),
    (∀ j, Al.getD j 0 = out.A j) → (∀ t k, dx.get t = some k → i ≤ k → T.get t = T0 t) → all.drop i = os → ancs.length = i → (∀ j b, (ancs.getD j 0).testBit b = true → b < i) → passA P E Q call round n all dx Al N0 os i ancs m u pend T H = some out → PassOk P E Q call round all dx T0 N0 i ancs m u pend T H out
  | [], i, ancs, m, u, pend, T, H, out, hA, hT0, hd, hlen, hbits, e => by
    simp only [passA, Option.some.injEq] at e
    subst e
    refine ⟨fun _ _ => rfl, fun _ _ => rfl, fun k o hk ho => ?_, fun x hx => by simpa [DOut.L] using hx, ⟨rfl, rfl, rfl⟩, fun e he => by simp at he, List.Pairwise.nil, fun x hx => .inl (by simpa [DOut.L] using hx)⟩
    have : all.length ≤ i := List.drop_eq_nil_iff.1 hd
    have := (List.getElem?_eq_some_iff.1 ho).1
    omega
  | o :: os, i, ancs, m, u, pend, T, H, out, hA, hT0, hd, hlen, hbits, e => by
    have ho : all[i]? = some o := by
      have := List.getElem?_drop (xs := all) (i := i) (j := 0)
      rw [hd] at this
      simpa using this.symm
    have hd' : all.drop (i + 1) = os := by
      rw [← List.drop_drop, hd]; rfl
    rw [passA] at e
    cases hb : (o.after.toList.all fun e => !Region.binds .any e || Nat.blt e.on i) with
    | false => rw [hb] at e; cases e
    | true =>
      rw [hb, cond_true] at e
      have hed : ∀ e ∈ o.after, Region.binds .any e = true → e.on < i := fun e he h1 => by
        have := List.all_eq_true.1 hb e (by simpa using he)
        rw [h1] at this
        simpa using this
      have hlen' : (ancs ++ [ancOf ancs o]).length = i + 1 := by simp [hlen]
      have hbits' : ∀ j b, ((ancs ++ [ancOf ancs o]).getD j 0).testBit b = true → b < i + 1 := fun j b h => by
        rw [List.getD_eq_getElem?_getD] at h
        rcases Nat.lt_or_ge j i with hj | hj
        · rw [List.getElem?_append_left (by omega), ← List.getD_eq_getElem?_getD] at h
          exact Nat.lt_succ_of_lt (hbits _ _ h)
        · rcases Nat.eq_or_lt_of_le hj with rfl | hj
          · rw [List.getElem?_append_right (by omega), hlen, Nat.sub_self] at h
            obtain ⟨e, h1, h2, h3⟩ := ancOf_bit (j := b) h
            rcases h3 with rfl | h3
            · exact Nat.lt_succ_of_lt (hed e h1 h2)
            · exact Nat.lt_succ_of_lt (hbits _ _ h3)
          · rw [List.getElem?_eq_none (by simp; omega)] at h; simp at h
      have hput : ∀ v T', aput T n o.dst v = some T' → ∀ t k, dx.get t = some k → i + 1 ≤ k → T'.get t = T0 t := fun v T' hT t k hk hik => by
        rw [aput_get hT, if_neg]
        · exact hT0 t k hk (by omega)
        · intro hd2
          rw [hdx i o t ho hd2] at hk; cases hk; omega
      have ih := fun m u pend T H out hA hT0 => passA_ok hdx os (i + 1) (ancs ++ [ancOf ancs o]) m u pend T H out hA hT0 hd' hlen' hbits'
      split at e
      · rename_i hw
        split at e
        · rename_i T' hT
          have h := ih _ _ _ _ _ _ hA (hput _ _ hT) e
          obtain ⟨c1, c2, c3, c4, c5, c6, c7⟩ := h.step hdx hlen hbits ho hed hA hT0 hT
          refine ⟨c1, c3, fun k p hk hp => ?_, h.held, h.chain, fun e he => let ⟨a1, a2, a3⟩ := h.effs e he; ⟨by omega, a2, a3⟩, h.pair, h.keys⟩
          rcases Nat.eq_or_lt_of_le hk with rfl | hk
          · rw [ho] at hp; cases hp
            exact ⟨hed, c6, c7, .inl ⟨by rw [← c5]; exact hw, c4⟩⟩
          · exact h.ops k p hk hp
        · cases e
      · rename_i hw
        cases ha : isAlloc o.op with
        | true =>
          rw [ha, cond_true] at e
          split at e
          · rename_i v b hv
            split at e
            · rename_i T' hT
              have h := ih _ _ _ _ _ _ hA (hput _ _ hT) e
              obtain ⟨c1, c2, c3, c4, c5, c6, c7⟩ := h.step hdx hlen hbits ho hed hA hT0 hT
              refine ⟨c1, c3, fun k p hk hp => ?_, fun x hx => h.held x (by simp [hx]), h.chain, fun e he => let ⟨a1, a2, a3⟩ := h.effs e he; ⟨by omega, a2, a3⟩, h.pair, fun x hx => ?_⟩
              · rcases Nat.eq_or_lt_of_le hk with rfl | hk
                · rw [ho] at hp; cases hp
                  exact ⟨hed, c6, c7, .inr (.inl ⟨by rw [← c5]; exact hw, ha, v, b, by rw [← c5]; exact hv, c4, h.held _ (by simp)⟩)⟩
                · exact h.ops k p hk hp
              · rcases h.keys x hx with hx | hx
                · rcases List.mem_cons.1 hx with rfl | hx
                  · exact .inr ⟨o, ho, by rw [← c5]; exact hw, ha⟩
                  · exact .inl hx
                · exact .inr hx
            · cases e
          · cases e
        | false =>
          rw [ha, cond_false] at e
          cases hf : (isPure o.op || isReader E o.op) with
          | true =>
            rw [hf, cond_true] at e
            split at e
            · rename_i v K hv
              split at e
              · rename_i T' hT
                have h := ih _ _ _ _ _ _ hA (hput _ _ hT) e
                obtain ⟨c1, c2, c3, c4, c5, c6, c7⟩ := h.step hdx hlen hbits ho hed hA hT0 hT
                refine ⟨c1, c3, fun k p hk hp => ?_, h.held, h.chain, fun e he => let ⟨a1, a2, a3⟩ := h.effs e he; ⟨by omega, a2, a3⟩, h.pair, h.keys⟩
                rcases Nat.eq_or_lt_of_le hk with rfl | hk
                · rw [ho] at hp; cases hp
                  exact ⟨hed, c6, c7, .inr (.inr (.inl ⟨by rw [← c5]; exact hw, ha, hf, v, H, K, by rw [← c5]; exact hv, c4⟩))⟩
                · exact h.ops k p hk hp
              · cases e
            · cases e
          | false =>
            rw [hf, cond_false] at e
            cases hm : Nat.beq (ancOf ancs o &&& m) m with
            | false => rw [hm] at e; cases e
            | true =>
              rw [hm, cond_true] at e
              have hm' := Nat.eq_of_beq_eq_true hm
              split at e
              · rename_i v K hv
                split at e
                · rename_i T' hT
                  split at e
                  · rename_i out' he'
                    cases e
                    have hA' : ∀ j, Al.getD j 0 = out'.A j := hA
                    have h := ih _ _ _ _ _ _ hA' (hput _ _ hT) he'
                    obtain ⟨c1, c2, c3, c4, c5, c6, c7⟩ := h.step hdx hlen hbits ho hed hA' hT0 hT
                    have hL : ∀ x, x ∈ out'.L → x ∈ (⟨⟨i, m, u, H, pend.filter fun x => (ancOf ancs o).testBit x.1, K⟩ :: out'.effs, out'.pend, out'.before, out'.ups, out'.ancs, out'.T, out'.H⟩ : DOut).L := fun x hx => by
                      simp only [DOut.L, List.flatMap_cons, List.append_assoc, List.mem_append] at hx ⊢
                      exact .inr hx
                    refine ⟨c1, c3, fun k p hk hp => ?_, fun x hx => ?_, ⟨rfl, rfl, rfl, ?_⟩, fun e he => ?_, ?_, fun x hx => ?_⟩
                    · rcases Nat.eq_or_lt_of_le hk with rfl | hk
                      · exact ⟨by rw [ho] at hp; cases hp; exact hed, by rw [ho] at hp; cases hp; exact c6, c7, .inr (.inr (.inr ⟨_, List.mem_cons_self, rfl⟩))⟩
                      · exact (h.ops k p hk hp).mono (fun e he => List.mem_cons_of_mem _ he) hL
                    · cases hx2 : (ancOf ancs o).testBit x.1 with
                      | true => simp only [DOut.L, List.flatMap_cons, List.append_assoc, List.mem_append]; exact .inl (List.mem_filter.2 ⟨hx, hx2⟩)
                      | false => exact hL x (h.held x (List.mem_filter.2 ⟨hx, by rw [hx2]; rfl⟩))
                    · have := h.chain
                      rw [← c2] at this
                      exact this
                    · rcases List.mem_cons.1 he with rfl | he
                      · refine ⟨Nat.le_refl _, ⟨⟨o, ho, by rw [← hw, c5]; rfl, ha, hf, v, by rw [← hv, c5]; rfl, c4⟩, fun x hx => ?_⟩, fun j hj => ?_⟩
                        · have := (List.mem_filter.1 hx).2
                          rw [← c2] at this; exact this
                        · have : (ancOf ancs o &&& m).testBit j = true := by rw [hm']; exact hj
                          rw [Nat.testBit_and, Bool.and_eq_true] at this
                          rw [← c2] at this
                          exact this.1
                      · obtain ⟨a1, a2, a3⟩ := h.effs e he
                        exact ⟨by omega, a2, fun j hj => a3 j (by rw [Nat.testBit_or, hj]; rfl)⟩
                    · refine List.Pairwise.cons (fun e he => ?_) h.pair
                      exact (h.effs e he).2.2 i (by rw [Nat.testBit_or, Nat.testBit_two_pow]; simp)
                    · simp only [DOut.L, List.flatMap_cons, List.append_assoc, List.mem_append] at hx
                      rcases hx with hx | hx
                      · exact .inl (List.mem_filter.1 hx).1
                      · rcases h.keys x (by simpa [DOut.L] using hx) with hx | hx
                        · exact .inl (List.mem_filter.1 hx).1
                        · exact .inr hx
                  · cases e
                · cases e
              · cases e
      · cases e
end
end AM
end Go.Proofs.YtccnkkffeokgcaaGreatDoor
