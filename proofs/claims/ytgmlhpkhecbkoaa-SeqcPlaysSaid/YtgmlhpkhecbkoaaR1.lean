/-
  The document's axis (counterpaneref03): what it is in memory; Find. Condition: it lies in memory as RefIs says.
-/
import Derived.Test.YtgmlhpkhecbkoaaJ3
import Derived.Test.YtgmlhpkhecbkoaaC8
namespace Go.Proofs.Ytgmlhpkhecbkoaa
open Go.RowKit

/-- The two cells of the document's axis, and what hangs on them. -/
structure RefIs (w : World) (own : Tags) (t p : Nat) (ids : List Id) (live : List Bool) (vI vL : Value) : Prop where
  tag : own p = t
  blk : Blk w p 55 #[vI, vL]
  rI : Row w own t 24 2 vI ids.length (idCells ids)
  rL : Row w own t 4 1 vL live.length (boolCells live)
structure RefAt (w : World) (own : Tags) (t p : Nat) (ids : List Id) (live : List Bool) : Prop where
  len : live.length = ids.length
  le : ids.length ≤ 1000
  is : ∃ vI vL, RefIs w own t p ids live vI vL
section
variable {w w' : World} {own own' : Tags} {t u p : Nat} {ids : List Id} {live : List Bool} {vI vL : Value}
theorem RefIs.keep (h : RefIs w own t p ids live vI vL) (k : Same t own w own' w') : RefIs w' own' t p ids live vI vL :=
  ⟨(k p h.blk.lt h.tag).2, h.blk.kept (k p h.blk.lt h.tag).1, h.rI.keep k, h.rL.keep k⟩
theorem RefAt.keep (h : RefAt w own t p ids live) (k : Same t own w own' w') : RefAt w' own' t p ids live := by
  obtain ⟨h1, h2, vI, vL, h3⟩ := h
  exact ⟨h1, h2, vI, vL, h3.keep k⟩
theorem RefAt.next (h : RefAt w own t p ids live) (k : Below w.heap.size w w') : RefAt w' own t p ids live := h.keep (Same.below k)
theorem RefAt.other (h : RefAt w own t p ids live) (k : Tr own u w own' w') (hu : t ≠ u) : RefAt w' own' t p ids live := h.keep (k.toSame hu)
end

set_option maxRecDepth 100000 in
set_option maxHeartbeats 1000000 in
theorem find_c (w : World) (own : Tags) (t p : Nat) (ids : List Id) (x y : Int) (vI vL : Value) (hb : Blk w p 55 #[vI, vL]) (hr : Row w own t 24 2 vI ids.length (idCells ids)) (hm : ids.length ≤ 1000000) :
    Calls Try.prog 42 #[.pointer (some ⟨p, 0, none⟩), .agg #[.int .i64 x, .int .i64 y]] w fun e w' => e = .returned (.int .i64 (idxI (x, y) ids)) ∧ Below w.heap.size w w' := by
  obtain ⟨A, c, rfl, _⟩ := hr.form
  have HR := Lib.hid hr.toIdsR.2
  have HP := Lib.hid hb
  clear hr hb
  go_enter Try.func42, Try.ntmps42
  go_wp2
  go_loopw [5] (fun i wr => ∃ k : Nat, k ≤ ids.length ∧ i = .int .i64 k ∧ Hid (∀ j, j < k → ids[j]? ≠ some (x, y)) ∧ wr.cell? ⟨w.heap.size, 0, none⟩ = some (.int .i64 x) ∧ wr.cell? ⟨w.heap.size, 1, none⟩ = some (.int .i64 y) ∧ Below w.heap.size w wr) (fun i _ => ids.length - (intOf i).toNat)
  case atStart => exact ⟨0, Nat.zero_le _, rfl, (fun j hj => absurd hj (by omega)), by simp, by simp, (Below.refl _ _).alloc (Nat.le_refl _) _⟩
  case round =>
    obtain ⟨k, hk, rfl, hno, h1, h2, hB⟩ := hrel
    have c0 := (hB.cell (p := ⟨p, 0, none⟩) HP.out.lt).trans (HP.out.cell 0)
    simp at c0
    have hBs := hB.size
    by_cases hlt : k < ids.length
    · obtain ⟨b, off, rfl, _, hb, hc⟩ := HR.out (fun e => by rw [e] at hlt; simp at hlt)
      have g := hc k hlt
      have g1 : wr.cell? ⟨b, off + k * 2, none⟩ = some (.int .i64 ids[k].1) := (hB.cell (p := ⟨b, off + k*2, none⟩) hb).trans g.1
      have g2 : wr.cell? ⟨b, off + k * 2 + 1, none⟩ = some (.int .i64 ids[k].2) := (hB.cell (p := ⟨b, off + k*2+1, none⟩) hb).trans g.2
      have hz := Lib.hid (List.getElem?_eq_getElem hlt)
      have HB := Lib.hid hB
      clear g hc hB
      generalize ids[k] = z at *
      obtain ⟨z1, z2⟩ := z
      dsimp only at g1 g2
      have hk0 : (0 : Int) ≤ (k : Int) := by omega
      have hkn : (k : Int) < (ids.length : Int) := by omega
      cases hq : ideq z1 z2 x y
      · have Hq := Lib.hid (ideq_false.1 hq)
        go_wp2
        go_quiet (fail)
        go_wp2
        go_roundw
        case rel =>
          refine ⟨k + 1, by omega, by go_num, ?_, h1, h2, HB.out.trans ⟨rfl, rfl, rfl, Nat.le_refl _, fun _ _ => rfl⟩⟩
          intro j hj
          by_cases hjk : j < k
          · exact hno.out j hjk
          · have : j = k := by omega
            subst this
            rw [hz.out]
            intro e
            have e := Option.some.inj e
            simp only [Prod.mk.injEq] at e
            exact Hq.out e
        case measure => simp [intOf]; omega
      · have Hq := Lib.hid (ideq_true.1 hq)
        go_wp2
        go_quiet (fail)
        go_wp2
        go_ret
        refine ⟨ret_int ?_, HB.out.trans ⟨rfl, rfl, rfl, Nat.le_refl _, fun _ _ => rfl⟩⟩
        obtain ⟨rfl, rfl⟩ := Hq.out
        exact (idxI_hit hz.out hno.out).symm
    · have HB := Lib.hid hB
      clear hB
      go_wp2
      go_ret
      refine ⟨ret_int ?_, HB.out⟩
      exact (idxI_miss (fun j hj => hno.out j (by omega))).symm
end Go.Proofs.Ytgmlhpkhecbkoaa
