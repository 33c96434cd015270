/-
  What an insertion leaves of a shared axis in memory. No condition.
-/
import Derived.Test.YtgmlhpkhecbkoaaS3
import Derived.Test.YtgmlhpkhecbkoaaJ1
namespace Go.Proofs.Ytgmlhpkhecbkoaa
open Go.RowKit

theorem zero22 (w : World) : (zeroValue 22).run Try.prog w = .ok (.slice none 0 0) w := by kernel_rfl
theorem ShIs.hang {w : World} {own : Tags} {t p s h b : Nat} {first : List Id} {puts cuts : List (Id × Id)} {vF vD : Value} {hl : List (Id × Value)} (a : ShIs w own t p first puts cuts vF s h vD b hl) (k : Id) :
    Row w own t 24 2 ((getKV k hl).getD (.slice none 0 0)) (kids puts k).length (idCells (kids puts k)) := by
  cases hg : getKV k hl with
  | none => rw [a.bare k hg]; exact Row.nil _ _ _ _ _
  | some v => exact a.rows k v hg
theorem Row.past {w w1 : World} {own own1 : Tags} {t : Nat} {e : TypeId} {size : Nat} {v : Value} {n : Nat} {xs : List Value} {row : Option Nat} (h : Row w own t e size v n xs) (hg : w.grownBy w1 row) (hs : ∀ k, k < w.heap.size → own1 k = own k) (hne : ∀ g, v.ownBlock = some g → row ≠ some g) : Row w1 own1 t e size v n xs :=
  h.kept fun k hlt hk ho => ⟨hg.block k hlt (fun e => hne k hk e.symm), by rw [hs k hlt]; exact ho⟩
theorem MapIs.past {w w1 : World} {s : Nat} {l : List (Id × Value)} {row : Option Nat} (h : MapIs w s l) (hg : w.grownBy w1 row) (hne : row ≠ some s) : MapIs w1 s l := h.kept (hg.block s h.lt (fun e => hne e.symm))
theorem Blk.past {w w1 : World} {g : Nat} {e : TypeId} {cs : Array Value} {row : Option Nat} (h : Blk w g e cs) (hg : w.grownBy w1 row) (hne : row ≠ some g) : Blk w1 g e cs := h.kept (hg.block g h.lt (fun e => hne e.symm))
theorem Row.not_map {w : World} {own : Tags} {t : Nat} {e : TypeId} {size : Nat} {v : Value} {n : Nat} {xs : List Value} (h : Row w own t e size v n xs) {s : Nat} {l : List (Id × Value)} (m : MapIs w s l) : v.ownBlock ≠ some s := fun hv => by
  obtain ⟨cs, hb⟩ := h.blk hv
  exact hb.ne_map m rfl
theorem Row.not_blk {w : World} {own : Tags} {t : Nat} {e e2 : TypeId} {size : Nat} {v : Value} {n : Nat} {xs : List Value} (h : Row w own t e size v n xs) {g : Nat} {cs : Array Value} (m : Blk w g e2 cs) (hne : e ≠ e2) : v.ownBlock ≠ some g := fun hv => by
  obtain ⟨cs, hb⟩ := h.blk hv
  exact hb.ne_type m hne rfl

theorem ShIs.put3 {w w1 w2 w3 w4 : World} {own : Tags} {t p s h b g c : Nat} {first : List Id} {puts cuts : List (Id × Id)} {vF vD : Value} {hl : List (Id × Value)} (a : ShIs w own t p first puts cuts vF s h vD b hl) (k z : Id) (hz : has first puts z = false)
    (hg1 : w.grownBy w1 ((getKV k hl).getD (.slice none 0 0)).ownBlock) (hr1 : w1.ownsRow 0 24 2 (.slice (some ⟨g, 0, none⟩) ((kids puts k).length + 1) c) ((kids puts k).length + 1) (idCells (hangAdd (kids puts k) z)))
    (hat : ((getKV k hl).getD (.slice none 0 0)).ownBlock = some g ∨ (w.heap.size ≤ g ∧ g < w1.heap.size))
    (hm2 : MapIs w2 h (putKV k (.slice (some ⟨g, 0, none⟩) ((kids puts k).length + 1) c) hl)) (hg2 : w1.grownBy w2 (some h)) (hb3 : Below w2.heap.size w2 w3)
    (hm4 : MapIs w4 s (putKV z (.bool true) (thereOf first puts))) (hg4 : w3.grownBy w4 (some s)) :
    ∃ own', Tr own t w own' w4 ∧ ShIs w4 own' t p first (puts ++ [(k, z)]) cuts vF s h vD b (putKV k (.slice (some ⟨g, 0, none⟩) ((kids puts k).length + 1) c) hl) := by
  have hrow := a.hang k
  obtain ⟨own1, tr1, hs1, r1⟩ := hrow.app2 (Tr.refl own t w) hg1 hr1 hat
  have sS : own1 s = t := by rw [hs1 s a.mS.lt]; exact a.tS
  have sH : own1 h = t := by rw [hs1 h a.mH.lt]; exact a.tH
  have tr4 : Tr own t w own1 w4 := (((tr1.grown hg2 (fun k e => .inl (by cases e; exact sH))).below hb3).grown hg4 (fun k e => .inl (by cases e; exact sS)))
  -- a row that is not the one that grew
  have other : ∀ {e size v n xs}, Row w own t e size v n xs → (∀ g', v.ownBlock = some g' → ((getKV k hl).getD (.slice none 0 0)).ownBlock ≠ some g') → Row w4 own1 t e size v n xs := by
    intro e size v n xs hv hne
    have v1 := hv.past hg1 hs1 hne
    have m1h := a.mH.past hg1 (hrow.not_map a.mH)
    have v2 := v1.past (own1 := own1) hg2 (fun _ _ => rfl) (fun g' hg' e => v1.not_map m1h (by rw [hg', ← Option.some.inj e]))
    have v3 := v2.keep (Same.below hb3)
    have m1s := (a.mS.past hg1 (hrow.not_map a.mS)).past hg2 (fun e => a.sh (Option.some.inj e).symm)
    have m3s := m1s.kept (hb3.block s m1s.lt)
    exact v3.past (own1 := own1) hg4 (fun _ _ => rfl) (fun g' hg' e => v3.not_map m3s (by rw [hg', ← Option.some.inj e]))
  have blkp : Blk w4 p 100 #[vF, .map (some s), .map (some h), vD, .map (some b)] := by
    have b1 := a.blk.past hg1 (hrow.not_blk a.blk (by decide))
    have m1h := a.mH.past hg1 (hrow.not_map a.mH)
    have m1s := (a.mS.past hg1 (hrow.not_map a.mS)).past hg2 (fun e => a.sh (Option.some.inj e).symm)
    have b2 := b1.past hg2 (fun e => b1.ne_map m1h (Option.some.inj e).symm)
    have b3 := b2.kept (hb3.block p b2.lt)
    have m3s := m1s.kept (hb3.block s m1s.lt)
    exact b3.past hg4 (fun e => b3.ne_map m3s (Option.some.inj e).symm)
  refine ⟨own1, tr4, by rw [hs1 p a.blk.lt]; exact a.tag, blkp, ?_, sS, ?_, sH, ?_, by rw [hs1 b a.mB.lt]; exact a.tB, ?_, ?_, a.sh, a.sb, a.hb, ?_, ?_, ?_⟩
  · refine other a.rF (fun g' hg' e => ?_)
    cases hk : getKV k hl with
    | none => rw [hk] at e; simp [Value.ownBlock] at e
    | some v =>
      rw [hk] at e
      exact (a.apart k v g' hk e).1 hg'
  · rw [← there_put first puts k z hz]; exact hm4
  · exact (hm2.kept (hb3.block h hm2.lt)).past hg4 (fun e => a.sh (Option.some.inj e))
  · have m1 := (a.mB.past hg1 (hrow.not_map a.mB)).past hg2 (fun e => a.hb (Option.some.inj e))
    exact (m1.kept (hb3.block b m1.lt)).past hg4 (fun e => a.sb (Option.some.inj e))
  · refine other a.rD (fun g' hg' e => ?_)
    obtain ⟨cs, hbD⟩ := a.rD.blk hg'
    exact hrow.not_blk hbD (by decide) e
  · intro k' v' hv'
    rw [getKV_put] at hv'
    rw [kids_snoc]
    by_cases hk : k' = k
    · subst hk
      rw [if_pos rfl] at hv' ⊢
      cases hv'
      have m1h := a.mH.past hg1 (hrow.not_map a.mH)
      have v2 := r1.past (own1 := own1) hg2 (fun _ _ => rfl) (fun g' hg' e => r1.not_map m1h (by rw [hg', ← Option.some.inj e]))
      have v3 := v2.keep (Same.below hb3)
      have m1s := (a.mS.past hg1 (hrow.not_map a.mS)).past hg2 (fun e => a.sh (Option.some.inj e).symm)
      have m3s := m1s.kept (hb3.block s m1s.lt)
      have v4 := v3.past (own1 := own1) hg4 (fun _ _ => rfl) (fun g' hg' e => v3.not_map m3s (by rw [hg', ← Option.some.inj e]))
      rw [length_hangAdd]
      exact v4
    · rw [if_neg hk] at hv'
      rw [if_neg (fun e => hk e.symm)]
      refine other (a.rows k' v' hv') (fun g' hg' e => ?_)
      cases hkk : getKV k hl with
      | none => rw [hkk] at e; simp [Value.ownBlock] at e
      | some v =>
        rw [hkk] at e
        exact (a.apart k v g' hkk e).2 k' v' hk hv' hg'
  · intro k' hv'
    rw [getKV_put] at hv'
    by_cases hk : k' = k
    · rw [if_pos hk] at hv'; cases hv'
    · rw [if_neg hk] at hv'
      rw [kids_snoc, if_neg (fun e => hk e.symm)]
      exact a.bare k' hv'
  · intro k1 v1 g1 hv1 hg1'
    rw [getKV_put] at hv1
    -- the new block is nobody else's
    have newb : ∀ {v' : Value} {e size n xs}, Row w own t e size v' n xs → ((∀ v, getKV k hl = some v → v.ownBlock = some g → v'.ownBlock ≠ some g)) → v'.ownBlock ≠ some g := by
      intro v' e size n xs hv' hh hvg
      rcases hat with hat | hat
      · cases hkk : getKV k hl with
        | none => rw [hkk] at hat; simp [Value.ownBlock] at hat
        | some v =>
          rw [hkk] at hat
          exact hh v hkk hat hvg
      · have := (hv'.1.lt g hvg).2; omega
    by_cases hk : k1 = k
    · subst hk
      rw [if_pos rfl] at hv1
      cases hv1
      have hgg : g = g1 := by simpa [Value.ownBlock] using hg1'
      subst hgg
      refine ⟨newb a.rF (fun v hv hvg => (a.apart k1 v g hv hvg).1), fun k' v' hk' hv' => ?_⟩
      rw [getKV_put, if_neg hk'] at hv'
      exact newb (a.rows k' v' hv') (fun v hv hvg => (a.apart k1 v g hv hvg).2 k' v' hk' hv')
    · rw [if_neg hk] at hv1
      obtain ⟨h1, h2⟩ := a.apart k1 v1 g1 hv1 hg1'
      refine ⟨h1, fun k' v' hk' hv' => ?_⟩
      rw [getKV_put] at hv'
      by_cases hkk : k' = k
      · subst hkk
        rw [if_pos rfl] at hv'
        cases hv'
        intro e
        have hgg : g = g1 := by simpa [Value.ownBlock] using e
        subst hgg
        exact newb (a.rows k1 v1 hv1) (fun v hv hvg => (a.apart k' v g hv hvg).2 k1 v1 hk hv1) hg1'
      · rw [if_neg hkk] at hv'
        exact h2 k' v' hk' hv'
end Go.Proofs.Ytgmlhpkhecbkoaa
