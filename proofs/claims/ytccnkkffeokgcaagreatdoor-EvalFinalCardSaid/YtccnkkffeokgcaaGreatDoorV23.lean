/-
  The abstract machine: the operations of a statement whose order is drawn: whichever order comes. No condition.
-/
import Derived.Test.YtccnkkffeokgcaaGreatDoorV22
namespace Go.Proofs.YtccnkkffeokgcaaGreatDoor
namespace AM
open Go.RowKit

section
variable {P : Program} {E : Env} {Q : Eqs} {call : ACall} {round : ARound} {n : Nat} {all : List Oper} {dx : Tri Nat} {T0 : Nat → Option Value} {N0 : Nat}
theorem dxOk_ok {n : Nat} : ∀ (os : List Oper) (i : Nat), all.drop i = os → dxOk dx n os i = true → ∀ k o d, i ≤ k → all[k]? = some o → o.dst = some d → d < n ∧ dx.get d = some k
  | [], i, hd, _, k, o, d, hk, ho, _ => by
    have : all.length ≤ i := List.drop_eq_nil_iff.1 hd
    have := (List.getElem?_eq_some_iff.1 ho).1
    omega
  | p :: os, i, hd, h, k, o, d, hk, ho, hod => by
    simp only [dxOk, Bool.and_eq_true] at h
    have hp : all[i]? = some p := by
      have := List.getElem?_drop (xs := all) (i := i) (j := 0)
      rw [hd] at this
      simpa using this.symm
    rcases Nat.eq_or_lt_of_le hk with rfl | hk
    · rw [hp] at ho; cases ho
      have h1 := h.1
      rw [hod] at h1
      simp only [Bool.and_eq_true] at h1
      refine ⟨Nat.le_of_ble_eq_true h1.1, ?_⟩
      have h2 := h1.2
      split at h2
      · rename_i j hj; rw [hj, Nat.eq_of_beq_eq_true h2]
      · cases h2
    · exact dxOk_ok os (i + 1) (by rw [← List.drop_drop, hd]; rfl) h.2 k o d hk ho hod
theorem dxOf_ok {n : Nat} (hn : n < 1048575) : ∀ (os : List Oper) (i : Nat) (D : Tri Nat), (∀ o ∈ os, ∀ d, o.dst = some d → d < n) → ∀ t k, (dxOf os i D).get t = some k → D.get t = some k ∨ ∃ o, i ≤ k ∧ os[k - i]? = some o ∧ o.dst = some t
  | [], i, D, _, t, k, h => .inl h
  | o :: os, i, D, hb, t, k, h => by
    rw [dxOf] at h
    have fin : ∀ D', (dxOf os (i + 1) D').get t = some k → D'.get t = some k ∨ ∃ o', i ≤ k ∧ (o :: os)[k - i]? = some o' ∧ o'.dst = some t := fun D' h' => by
      rcases dxOf_ok hn os (i + 1) D' (fun o ho => hb o (by simp [ho])) t k h' with h1 | ⟨o', h1, h2, h3⟩
      · exact .inl h1
      · refine .inr ⟨o', by omega, ?_, h3⟩
        rw [show k - i = (k - (i + 1)) + 1 by omega]; exact h2
    split at h
    · rename_i d hd
      rcases fin _ h with h1 | h1
      · have hdn := hb o (by simp) d hd
        rw [Tri.get_set 20 D d t i (Nat.lt_of_le_of_lt (Nat.succ_le_of_lt hdn) (Nat.lt_trans hn (by decide)))] at h1
        by_cases e : t = d
        · rw [if_pos e] at h1; cases h1
          exact .inr ⟨o, Nat.le_refl _, by rw [Nat.sub_self]; rfl, by rw [hd, e]⟩
        · rw [if_neg e] at h1; exact .inl h1
      · exact .inr h1
    · exact fin _ h
theorem passB_ok {hs : List (Nat × Nat × AH)} {effall : Nat} {ancs : List Nat} {T0 T : Tri Value} : ∀ (os : List Oper) (i : Nat), all.drop i = os → passB P E Q call round all dx hs effall ancs T0 T os i = true →
    ∀ k o, i ≤ k → all[k]? = some o → isReader E o.op = true → awant all (sf dx (fun j => ancs.getD j 0) k T0.get T.get) o = some true → ∀ m u H, (m, u, H) ∈ hs → (ancs.getD k 0 &&& effall) ||| m = m → u.testBit k = false →
      ∃ v K, aoper1 P E Q call round (sf dx (fun j => ancs.getD j 0) k T0.get T.get) H o = some (v, K) ∧ PutIn T.get o v
  | [], i, hd, _, k, o, hk, ho => by
    have : all.length ≤ i := List.drop_eq_nil_iff.1 hd
    have := (List.getElem?_eq_some_iff.1 ho).1
    omega
  | p :: os, i, hd, h, k, o, hk, ho => by
    intro hr hw m u H hm h1 h2
    simp only [passB, Bool.and_eq_true] at h
    have hp : all[i]? = some p := by
      have := List.getElem?_drop (xs := all) (i := i) (j := 0)
      rw [hd] at this
      simpa using this.symm
    rcases Nat.eq_or_lt_of_le hk with rfl | hk
    · rw [hp] at ho; cases ho
      have g := h.1
      rw [hr, cond_true, hw] at g
      have g := List.all_eq_true.1 g _ hm
      dsimp only at g
      rw [h1, h2, show Nat.beq m m = true from Nat.beq_refl m] at g
      simp only [Bool.not_false, Bool.and_self, cond_true] at g
      split at g
      · rename_i v K hv
        refine ⟨v, K, hv, fun d hd => ?_⟩
        rw [hd] at g
        simp only at g
        split at g
        · rename_i v' hv'
          rw [hv', veq_ok _ _ _ g]
        · cases g
      · cases g
    · exact passB_ok os (i + 1) (by rw [← List.drop_drop, hd]; rfl) h.2 k o hk ho hr hw m u H hm h1 h2
theorem distinctB_ok : ∀ l : List (Nat × Blk), distinctB l = true → l.Pairwise fun x y => x.1 ≠ y.1
  | [], _ => .nil
  | x :: l, h => by
    simp only [distinctB, Bool.and_eq_true] at h
    refine .cons (fun y hy e => ?_) (distinctB_ok l h.2)
    have := List.all_eq_true.1 h.1 y hy
    rw [e, show Nat.beq y.1 y.1 = true from Nat.beq_refl _] at this
    cases this
theorem keys_uniq : ∀ l : List (Nat × Blk), l.Pairwise (fun x y => x.1 ≠ y.1) → ∀ x ∈ l, ∀ y ∈ l, x.1 = y.1 → x = y
  | [], _, x, hx, _, _, _ => by simp at hx
  | z :: l, h, x, hx, y, hy, e => by
    obtain ⟨h1, h2⟩ := List.pairwise_cons.1 h
    rcases List.mem_cons.1 hx with hx | hx <;> rcases List.mem_cons.1 hy with hy | hy
    · rw [hx, hy]
    · rw [hx] at e; exact absurd e (h1 y hy)
    · rw [hy] at e; exact absurd e.symm (h1 x hx)
    · exact keys_uniq l h2 x hx y hy e
/-! ### Slots -/
structure Slots (all : List Oper) (dx : Tri Nat) (T0 Tf : Nat → Option Value) (n : Nat) (D : List Deferred) (S : Nat → Prop) (μ : Mp) (a : Act) : Prop where
  size : a.tmps.size = n
  defers : a.defers = D
  outer : ∀ t v, dx.get t = none → Tf t = some v → ∃ v', a.tmps[t]? = some v' ∧ VR μ v v'
  slots : ∀ k o t v, S k → all[k]? = some o → o.dst = some t → Tf t = some v → ∃ v', a.tmps[t]? = some v' ∧ VR μ v v'
  old : ∀ k t v, ¬ S k → dx.get t = some k → T0 t = some v → ∃ v', a.tmps[t]? = some v' ∧ VR μ v v'
theorem Slots.mono {Tf : Nat → Option Value} {D : List Deferred} {S : Nat → Prop} {μ ν : Mp} {a : Act} (h : Slots all dx T0 Tf n D S μ a) (hs : μ.sub ν) : Slots all dx T0 Tf n D S ν a :=
  ⟨h.size, h.defers, fun t v h1 h2 => let ⟨v', h3, h4⟩ := h.outer t v h1 h2; ⟨v', h3, h4.monoS hs⟩, fun k o t v h0 h1 h2 h5 => let ⟨v', h3, h4⟩ := h.slots k o t v h0 h1 h2 h5; ⟨v', h3, h4.monoS hs⟩, fun k t v h0 h1 h2 => let ⟨v', h3, h4⟩ := h.old k t v h0 h1 h2; ⟨v', h3, h4.monoS hs⟩⟩
theorem Slots.put {Tf : Nat → Option Value} {D : List Deferred} {S : Nat → Prop} {μ : Mp} {a : Act} (h : Slots all dx T0 Tf n D S μ a) (hdx : ∀ k o d, all[k]? = some o → o.dst = some d → d < n ∧ dx.get d = some k) {i : Nat} {o : Oper} (ho : all[i]? = some o) (hi : ¬ S i) {v v' : Value} (hv : VR μ v v') (hp : PutIn Tf o v) :
    Slots all dx T0 Tf n D (fun k => S k ∨ k = i) μ (a.put o.dst v') := by
  have get : ∀ t, o.dst ≠ some t → (a.put o.dst v').tmps[t]? = a.tmps[t]? := fun t ht => by
    unfold Act.put
    cases hd : o.dst with
    | none => rfl
    | some d =>
      show (a.tmps.setIfInBounds d v')[t]? = _
      rw [Array.getElem?_setIfInBounds, if_neg (by rintro rfl; exact ht hd)]
  refine ⟨?_, ?_, ?_, ?_, ?_⟩
  · unfold Act.put; cases o.dst <;> simp [h.size]
  · rw [← h.defers]; unfold Act.put; cases o.dst <;> rfl
  · intro t u h1 h2
    rw [get t (fun hd => by rw [(hdx i o t ho hd).2] at h1; cases h1)]
    exact h.outer t u h1 h2
  · intro k p t u hk hp' hd hu
    rcases hk with hk | rfl
    · rw [get t (fun hd2 => by
        have e1 := (hdx i o t ho hd2).2
        have e2 := (hdx k p t hp' hd).2
        rw [e1] at e2; cases e2; exact hi hk)]
      exact h.slots k p t u hk hp' hd hu
    · rw [ho] at hp'; cases hp'
      have e := hp t hd
      rw [hu] at e; cases e
      refine ⟨v', ?_, hv⟩
      rw [hd]
      show (a.tmps.setIfInBounds t v')[t]? = _
      rw [Array.getElem?_setIfInBounds, if_pos rfl, if_pos (by rw [h.size]; exact (hdx k o t ho hd).1)]
  · intro k t u hk hd hu
    rw [get t (fun hd2 => by
      rw [(hdx i o t ho hd2).2] at hd; cases hd; exact hk (.inr rfl))]
    exact h.old k t u (fun h => hk (.inl h)) hd hu
theorem Slots.tr {Tf : Nat → Option Value} {D : List Deferred} {S : Nat → Prop} {μ : Mp} {a : Act} (h : Slots all dx T0 Tf n D S μ a) (hrev : ∀ t k, dx.get t = some k → ∃ o, all[k]? = some o ∧ o.dst = some t) {A : Nat → Nat} {i : Nat} (ha : ∀ j, (A i).testBit j = true → S j) (hb : ∀ k, (A k).testBit i = true → ¬ S k) : TR μ (sf dx A i T0 Tf) a.tmps := by
  intro t v e
  unfold sf at e
  split at e
  · rename_i k hk
    cases h1 : (A i).testBit k with
    | true =>
      rw [h1, cond_true] at e
      obtain ⟨o, h2, h3⟩ := hrev t k hk
      exact h.slots k o t v (ha k h1) h2 h3 e
    | false =>
      rw [h1, cond_false] at e
      cases h2 : (Nat.blt i k && (A k).testBit i) with
      | false => rw [h2] at e; cases e
      | true =>
        rw [h2, cond_true] at e
        rw [Bool.and_eq_true] at h2
        exact h.old k t v (hb k h2.2) hk e
  · rename_i hk
    exact h.outer t v hk e
/-! ### Memory -/
def Held (N0 : Nat) (b0 b : Base) (μ : Mp) (w : World) (x : Nat × Blk) : Prop := ∃ g s o, μ (N0 + x.1) = some (g, s) ∧ b.B g ∧ ¬ b0.B g ∧ ¬ b0.L g ∧ w.heap[g]? = some o ∧ BlkR μ s x.2 o ∧ x.2.own = true
def plOf (out : DOut) (R : List DEff) : List (Nat × Blk) := R.flatMap (·.ad) ++ out.pend
structure Mem (all : List Oper) (N0 : Nat) (out : DOut) (b0 : Base) (μ0 : Mp) (S : Nat → Prop) (μ : Mp) (m u : Nat) (Hc : AH) (R : List DEff) (b : Base) (w : World) : Prop where
  rel : Rel μ Hc b w
  under : Under b0 b
  le : μ0.le μ
  next : N0 + all.length ≤ Hc.next
  chain : Chain out.A m u Hc R out.before out.ups out.H
  suff : ∃ l, out.effs = l ++ R
  done : ∀ e ∈ out.effs, S e.i ∨ e ∈ R
  fresh : ∀ e ∈ R, ¬ S e.i
  ups : ∀ k, u.testBit k = true → S k
  edges : ∀ k, S k → ∀ j, (out.A k).testBit j = true → S j
  unm : ∀ k, k < all.length → ¬ S k → μ (N0 + k) = none
  held : ∀ x ∈ plOf out R, S x.1 → Held N0 b0 b μ w x
  apart : ∀ x ∈ plOf out R, ∀ y ∈ plOf out R, S x.1 → S y.1 → x.1 ≠ y.1 → ∀ g s g' s', μ (N0 + x.1) = some (g, s) → μ (N0 + y.1) = some (g', s') → g ≠ g'
theorem Held.world {b0 b : Base} {μ ν : Mp} {w w' : World} {x : Nat × Blk} (h : Held N0 b0 b μ w x) (hs : μ.sub ν) (hk : ∀ g, b.B g → w'.heap[g]? = w.heap[g]?) : Held N0 b0 b ν w' x := by
  obtain ⟨g, s, o, h1, h2, h3, h4, h5, h6, h7⟩ := h
  exact ⟨g, s, o, hs _ _ h1, h2, h3, h4, by rw [hk g h2]; exact h5, h6.monoS hs, h7⟩
theorem Mem.world {out : DOut} {b0 : Base} {μ0 : Mp} {S : Nat → Prop} {μ ν : Mp} {m u : Nat} {Hc : AH} {R : List DEff} {b : Base} {w w' : World} (h : Mem all N0 out b0 μ0 S μ m u Hc R b w) (hle : μ.le ν) (hr : Rel ν Hc b w') : Mem all N0 out b0 μ0 S ν m u Hc R b w' := by
  refine ⟨hr, h.under, h.le.trans hle, h.next, h.chain, h.suff, h.done, h.fresh, h.ups, h.edges, fun k hk hS => ?_, fun x hx hS => (h.held x hx hS).world hle.sub fun g hg => by rw [hr.keep g hg, h.rel.keep g hg], fun x hx y hy hSx hSy hne g s g' s' e1 e2 => ?_⟩
  · rw [hle.2 _ (by rw [h.rel.num]; have := h.next; omega)]; exact h.unm k hk hS
  · obtain ⟨g1, s1, _, f1, _⟩ := h.held x hx hSx
    obtain ⟨g2, s2, _, f2, _⟩ := h.held y hy hSy
    rw [hle.sub _ _ f1] at e1; cases e1
    rw [hle.sub _ _ f2] at e2; cases e2
    exact h.apart x hx y hy hSx hSy hne _ _ _ _ f1 f2
theorem Mem.more {out : DOut} {b0 : Base} {μ0 : Mp} {S : Nat → Prop} {μ : Mp} {m u : Nat} {Hc : AH} {R : List DEff} {b : Base} {w : World} (h : Mem all N0 out b0 μ0 S μ m u Hc R b w) {i : Nat} (hanc : ∀ j, (out.A i).testBit j = true → S j) (hx : ∀ x ∈ plOf out R, x.1 ≠ i) (he : ∀ e ∈ R, e.i ≠ i) :
    Mem all N0 out b0 μ0 (fun k => S k ∨ k = i) μ m u Hc R b w :=
  ⟨h.rel, h.under, h.le, h.next, h.chain, h.suff, fun e he => (h.done e he).imp .inl id, fun e he' hS => hS.elim (h.fresh e he') (he e he'), fun k hk => .inl (h.ups k hk),
   fun k hk j hj => hk.elim (fun hk => .inl (h.edges k hk j hj)) (fun e => .inl (hanc j (e ▸ hj))), fun k hk hS => h.unm k hk (fun hs => hS (.inl hs)),
   fun x hx' hS => h.held x hx' (hS.resolve_right (hx x hx')), fun x hx' y hy hSx hSy => h.apart x hx' y hy (hSx.resolve_right (hx x hx')) (hSy.resolve_right (hx y hy))⟩
/-- A block is laid ahead of its turn. -/
theorem Mem.lay {out : DOut} {b0 : Base} {μ0 : Mp} {S : Nat → Prop} {μ : Mp} {m u : Nat} {Hc : AH} {R : List DEff} {b : Base} {w : World} (h : Mem all N0 out b0 μ0 S μ m u Hc R b w) (hd : (plOf out R).Pairwise fun x y => x.1 ≠ y.1) (hμ0 : μ0.N ≤ N0) {i : Nat} {c : Blk} {ob : Obj} {s : Nat} (hi : i < all.length) (hanc : ∀ j, (out.A i).testBit j = true → S j) (hS : ¬ S i) (hx : (i, c) ∈ plOf out R) (he : ∀ e ∈ R, e.i ≠ i) (hr : BlkR μ s c ob) (hc : c.own = true) :
    ∃ ν b', μ.sub ν ∧ ν (N0 + i) = some (w.heap.size, s) ∧ Mem all N0 out b0 μ0 (fun k => S k ∨ k = i) ν m u Hc R b' (w.alloc ob) := by
  have hid : N0 + i < μ.N := by rw [h.rel.num]; have := h.next; omega
  have h0 := h.unm i hi hS
  have hs := Mp.at_sub μ (w.heap.size, s) hid h0
  have hz : (w.alloc ob).heap.size = w.heap.size + 1 := by simp
  have uniq : ∀ x ∈ plOf out R, x.1 = i → x = (i, c) := fun x hx' e => keys_uniq _ hd x hx' (i, c) hx e
  refine ⟨μ.at (N0 + i) (w.heap.size, s) hid h0, b.lay w ob h.rel.size, hs, Mp.at_self _ _ _ _ _, ?_⟩
  have old : ∀ x ∈ plOf out R, S x.1 → ∃ g s', μ (N0 + x.1) = some (g, s') ∧ g < w.heap.size := fun x hx' hSx => by
    obtain ⟨g, s', o, h1, _, _, _, h5, _⟩ := h.held x hx' hSx
    exact ⟨g, s', h1, (Array.getElem?_eq_some_iff.1 h5).1⟩
  refine ⟨(h.rel.lay ob).remap hid h0, h.under.lay h.rel ob, ⟨h.le.1, fun k hk => ?_⟩, h.next, h.chain, h.suff, fun e he => (h.done e he).imp .inl id, fun e he' hS => hS.elim (h.fresh e he') (he e he'), fun k hk => .inl (h.ups k hk),
   fun k hk j hj => hk.elim (fun hk => .inl (h.edges k hk j hj)) (fun e => .inl (hanc j (e ▸ hj))), fun k hk hSk => ?_, fun x hx' hSx => ?_, fun x hx' y hy hSx hSy hne g s1 g' s2 e1 e2 => ?_⟩
  · rw [Mp.at_ne _ _ _ _ (by omega)]; exact h.le.2 k hk
  · rw [Mp.at_ne _ _ _ _ (fun e => hSk (.inr (by omega)))]; exact h.unm k hk (fun hs => hSk (.inl hs))
  · rcases hSx with hSx | e
    · obtain ⟨g, s', o, h1, h2, h3, h4, h5, h6, h7⟩ := h.held x hx' hSx
      exact ⟨g, s', o, hs _ _ h1, .inl h2, h3, h4, by rw [Below.heap_alloc _ _ _ (Array.getElem?_eq_some_iff.1 h5).1]; exact h5, h6.monoS hs, h7⟩
    · rw [uniq x hx' e]
      have h1 := h.under.size
      have h2 := h.rel.size
      exact ⟨w.heap.size, s, ob, Mp.at_self _ _ _ _ _, .inr rfl, fun hB => by have := b0.bound _ hB; omega, fun hB => by have := b0.lbound _ hB; omega, Array.getElem?_push_size, hr.monoS hs, hc⟩
  · rcases hSx with hSx | ex <;> rcases hSy with hSy | ey
    · have ne : ∀ z, S z → z ≠ i := fun z hz e => hS (e ▸ hz)
      rw [Mp.at_ne _ _ _ _ (fun e => ne _ hSx (by omega))] at e1
      rw [Mp.at_ne _ _ _ _ (fun e => ne _ hSy (by omega))] at e2
      exact h.apart x hx' y hy hSx hSy hne _ _ _ _ e1 e2
    · obtain ⟨g1, s3, f1, f2⟩ := old x hx' hSx
      rw [hs _ _ f1] at e1; cases e1
      rw [ey, Mp.at_self] at e2; cases e2
      omega
    · obtain ⟨g1, s3, f1, f2⟩ := old y hy hSy
      rw [hs _ _ f1] at e2; cases e2
      rw [ex, Mp.at_self] at e1; cases e1
      omega
    · exact absurd (ex.trans ey.symm) hne
/-- Blocks come into their own. -/
theorem adopt_list {b0 : Base} {μ : Mp} {w : World} {K : Nat} : ∀ (l : List (Nat × Blk)) (rest : List (Nat × Blk)) (Hc : AH) (b : Base), Rel μ Hc b w → Under b0 b → K ≤ Hc.next → (∀ x ∈ l, N0 + x.1 < K) → (∀ x ∈ l, Held N0 b0 b μ w x) → (l ++ rest).Pairwise (fun x y => x.1 ≠ y.1) →
    ∀ S : Nat → Prop, (∀ x ∈ l, S x.1) → (∀ x ∈ rest, S x.1 → Held N0 b0 b μ w x) → (∀ x ∈ l ++ rest, ∀ y ∈ l ++ rest, S x.1 → S y.1 → x.1 ≠ y.1 → ∀ g s g' s', μ (N0 + x.1) = some (g, s) → μ (N0 + y.1) = some (g', s') → g ≠ g') →
    ∃ b', Rel μ (adopt N0 Hc l) b' w ∧ Under b0 b' ∧ (adopt N0 Hc l).next = Hc.next ∧ ∀ x ∈ rest, S x.1 → Held N0 b0 b' μ w x
  | [], rest, Hc, b, hr, hu, _, _, _, _, S, _, hrest, _ => ⟨b, hr, hu, rfl, hrest⟩
  | x :: l, rest, Hc, b, hr, hu, hK, hlt, hl, hd, S, hS, hrest, hap => by
    obtain ⟨g, s, o, h1, h2, h3, h4, h5, h6, h7⟩ := hl x (by simp)
    have hf := hr.adopt (id := N0 + x.1) (Nat.lt_of_lt_of_le (hlt x (by simp)) hK) h1 h5 h6 h7 h2 (by rw [hu.L]; exact h4)
    rw [List.cons_append] at hd hap
    have hd1 := (List.pairwise_cons.1 hd).1
    have free : ∀ y ∈ l ++ rest, S y.1 → Held N0 b0 b μ w y → Held N0 b0 (b.free g) μ w y := fun y hy hSy hh => by
      obtain ⟨g', s', o', k1, k2, k3⟩ := hh
      exact ⟨g', s', o', k1, ⟨k2, fun e => hap x (by simp) y (by simp [List.mem_append.1 hy]) (hS x (by simp)) hSy (hd1 y hy) g s g' s' h1 k1 e.symm⟩, k3⟩
    exact adopt_list l rest (Hc.put (N0 + x.1) x.2) (b.free g) hf (hu.free h3) hK (fun y hy => hlt y (by simp [hy])) (fun y hy => free y (by simp [hy]) (hS y (by simp [hy])) (hl y (by simp [hy]))) (List.pairwise_cons.1 hd).2 S (fun y hy => hS y (by simp [hy]))
      (fun y hy hSy => free y (by simp [hy]) hSy (hrest y hy hSy)) (fun y hy z hz => hap y (List.mem_cons_of_mem _ hy) z (List.mem_cons_of_mem _ hz))
end
end AM
end Go.Proofs.YtccnkkffeokgcaaGreatDoor
