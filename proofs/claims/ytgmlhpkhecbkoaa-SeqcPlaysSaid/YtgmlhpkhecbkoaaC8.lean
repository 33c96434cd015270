/-
  counterpaneref03.Same; counterpanelaw03.awake. Conditions: slices that can be read.
-/
import Derived.Test.YtgmlhpkhecbkoaaC7
namespace Go.Proofs.Ytgmlhpkhecbkoaa
open Go.RowKit

theorem take_eq_of {α : Type} {l m : List α} (h : l.length = m.length) (hk : ∀ j, j < l.length → l[j]? = m[j]?) : l = m := by
  apply List.ext_getElem?
  intro j
  rcases Nat.lt_or_ge j l.length with hj | hj
  · exact hk j hj
  · rw [List.getElem?_eq_none hj, List.getElem?_eq_none (by omega)]
theorem ret_bool {a b : Bool} (h : a = b) : Ending.returned (.bool a) = .returned (.bool b) := by rw [h]

set_option maxRecDepth 100000 in
set_option maxHeartbeats 1000000 in
theorem same_ne (A B : Option Addr) (n m c d : Nat) (w : World) (hnm : n ≠ m) :
    Calls Try.prog 37 #[.slice A n c, .slice B m d] w fun e w' => e = .returned (.bool false) ∧ w = w' := by
  have hd : ((n : Int) != (m : Int)) = true := by rw [bne_iff_ne]; omega
  go_enter Try.func37, Try.ntmps37
  go_wp2
  go_ret
  exact ⟨rfl, rfl⟩

set_option maxRecDepth 100000 in
set_option maxHeartbeats 1000000 in
theorem same_eq (A B : Option Addr) (n c d : Nat) (l m : List Id) (w : World) (own1 own2 : Tags) (s t : Nat) (hA : IdsR w own1 s A l) (hB : IdsR w own2 t B m) (hl : l.length = n) (hm : m.length = n) (hn : n ≤ maxLen) :
    Calls Try.prog 37 #[.slice A n c, .slice B n d] w fun e w' => e = .returned (.bool (decide (l = m))) ∧ ∃ k, w' = w.drewN k := by
  unfold maxLen at hn
  have Hl := Lib.hid hl
  have Hm := Lib.hid hm
  have HA := Lib.hid hA
  have HB := Lib.hid hB
  have hd : ((n : Int) != (n : Int)) = false := by simp
  clear hl hm hA hB
  go_enter Try.func37, Try.ntmps37
  go_wp2
  go_loopw [5] (fun i wr => ∃ k q : Nat, k ≤ n ∧ i = .int .i64 k ∧ Hid (∀ j, j < k → l[j]? = m[j]?) ∧ wr = w.drewN q) (fun i _ => n - (intOf i).toNat)
  case atStart => exact ⟨0, 0, Nat.zero_le _, rfl, (fun j hj => absurd hj (by omega)), rfl⟩
  case round =>
    obtain ⟨k, q, hk, rfl, hno, rfl⟩ := hrel
    by_cases hlt : k < n
    · have hkl : k < l.length := by rw [Hl.out]; exact hlt
      have hkm : k < m.length := by rw [Hm.out]; exact hlt
      obtain ⟨b1, o1, rfl, _, _, hc1⟩ := HA.out (fun e => by rw [e] at hkl; simp at hkl)
      obtain ⟨b2, o2, rfl, _, _, hc2⟩ := HB.out (fun e => by rw [e] at hkm; simp at hkm)
      obtain ⟨g1, g2⟩ := hc1 k hkl
      obtain ⟨g3, g4⟩ := hc2 k hkm
      have e1 := Lib.hid (List.getElem?_eq_getElem hkl)
      have e2 := Lib.hid (List.getElem?_eq_getElem hkm)
      clear hc1 hc2
      generalize l[k] = z at *
      generalize m[k] = y at *
      obtain ⟨z1, z2⟩ := z
      obtain ⟨y1, y2⟩ := y
      dsimp only at g1 g2 g3 g4
      have hk0 : (0 : Int) ≤ (k : Int) := by omega
      have hkn : (k : Int) < (n : Int) := by omega
      cases hq : ideq z1 z2 y1 y2
      · have Hq := Lib.hid (ideq_false.1 hq)
        go_wp2
        go_quiet (fail)
        go_wp2
        go_ret
        refine ⟨ret_bool ?_, _, World.drewN_drewN _ _ _⟩
        symm
        rw [decide_eq_false_iff_not]
        rintro rfl
        have := e1.out.symm.trans e2.out
        have := Option.some.inj this
        simp only [Prod.mk.injEq] at this
        exact Hq.out this
      · obtain ⟨rfl, rfl⟩ := ideq_true.1 hq
        go_wp2
        go_quiet (fail)
        go_wp2
        go_roundw
        case rel =>
          refine ⟨k + 1, _, by omega, by go_num, ?_, rfl⟩
          intro j hj
          by_cases hjk : j < k
          · exact hno.out j hjk
          · have : j = k := by omega
            subst this
            rw [e1.out, e2.out]
        case measure => simp [intOf]; omega
    · go_wp2
      go_ret
      refine ⟨ret_bool ?_, _, rfl⟩
      symm
      rw [decide_eq_true_eq]
      exact take_eq_of (Hl.out.trans Hm.out.symm) (fun j hj => hno.out j (by rw [Hl.out] at hj; omega))
theorem same_c (A B : Option Addr) (n k c d : Nat) (l m : List Id) (w : World) (own1 own2 : Tags) (s t : Nat) (hA : IdsR w own1 s A l) (hB : IdsR w own2 t B m) (hl : l.length = n) (hm : m.length = k) (hn : n ≤ maxLen) :
    Calls Try.prog 37 #[.slice A n c, .slice B k d] w fun e w' => e = .returned (.bool (decide (l = m))) ∧ ∃ q, w' = w.drewN q := by
  by_cases hnk : n = k
  · subst hnk; exact same_eq A B n c d l m w own1 own2 s t hA hB hl hm hn
  · refine (same_ne A B n k c d w hnk).mono fun e w' ⟨he, hw⟩ => ⟨?_, 0, hw.symm⟩
    rw [he, decide_eq_false]
    rintro rfl
    exact hnk (hl.symm.trans hm)

/-- Since w0 nothing that was there was turned; what has a tag is new, and there. -/
structure Clean (w0 : World) (own : Tags) (w : World) : Prop where
  below : Below w0.heap.size w0 w
  zero : ∀ k, k < w0.heap.size → own k = 0
  fresh : Fresh own w
section
variable {w0 w w' : World} {own own' : Tags} {t : Nat}
theorem Clean.start (w : World) : Clean w (fun _ => 0) w := ⟨Below.refl _ _, fun _ _ => rfl, fun k h => absurd rfl h⟩
theorem Clean.tr (h : Clean w0 own w) (k : Tr own t w own' w') (ht : t ≠ 0) : Clean w0 own' w' :=
  ⟨⟨k.os.trans h.below.os, k.tape.trans h.below.tape, k.output.trans h.below.output, Nat.le_trans h.below.size k.size,
    fun j hj => (k.block j (Nat.lt_of_lt_of_le hj h.below.size) (by rw [h.zero j hj]; exact ht.symm)).trans (h.below.block j hj)⟩,
   fun j hj => (k.same j (Nat.lt_of_lt_of_le hj h.below.size)).trans (h.zero j hj), k.fresh h.fresh⟩
theorem Clean.next (h : Clean w0 own w) (k : Below w.heap.size w w') : Clean w0 own w' := ⟨h.below.trans (k.mono h.below.size), h.zero, h.fresh.mono k.size⟩
theorem Clean.alloc (h : Clean w0 own w) (o : Obj) : Clean w0 own (w.alloc o) := h.next ((Below.refl _ _).alloc (Nat.le_refl _) o)
theorem Clean.drewN (h : Clean w0 own w) (n : Nat) : Clean w0 own (w.drewN n) := h.next ⟨rfl, rfl, rfl, Nat.le_refl _, fun _ _ => rfl⟩
theorem Clean.setCell (h : Clean w0 own w) {p : Addr} (hp : w0.heap.size ≤ p.block) (u : Value) : Clean w0 own (w.setCell p u) := ⟨h.below.setCell hp u, h.zero, h.fresh.mono (by simp)⟩
end
/-- A block of one's own without a tag. -/
structure Box (w : World) (own : Tags) (X : Nat) (e : TypeId) (cs : Array Value) : Prop where
  blk : Blk w X e cs
  zero : own X = 0
section
variable {w w' : World} {own own' : Tags} {t X : Nat} {e : TypeId} {cs : Array Value}
theorem Box.new (hf : Fresh own w) (e : TypeId) (cs : Array Value) : Box (w.alloc (.cells cs e)) own w.heap.size e cs := ⟨Blk.new w e cs, hf.new (Nat.le_refl _)⟩
theorem Box.tr (h : Box w own X e cs) (k : Tr own t w own' w') (ht : t ≠ 0) : Box w' own' X e cs :=
  ⟨h.blk.kept (k.block X h.blk.lt (by rw [h.zero]; exact ht.symm)), (k.same X h.blk.lt).trans h.zero⟩
theorem Box.next (h : Box w own X e cs) (k : Below w.heap.size w w') : Box w' own X e cs := ⟨h.blk.kept (k.block X h.blk.lt), h.zero⟩
theorem Box.alloc (h : Box w own X e cs) (o : Obj) : Box (w.alloc o) own X e cs := h.next ((Below.refl _ _).alloc (Nat.le_refl _) o)
theorem Box.drewN (h : Box w own X e cs) (n : Nat) : Box (w.drewN n) own X e cs := h.next ⟨rfl, rfl, rfl, Nat.le_refl _, fun _ _ => rfl⟩
end
theorem AxisAt.next {w w' : World} {own : Tags} {t p : Nat} {ids : List Id} {live : List Bool} (h : AxisAt w own t p ids live) (k : Below w.heap.size w w') : AxisAt w' own t p ids live := h.keep (Same.below k)
theorem AxisAt.alloc {w : World} {own : Tags} {t p : Nat} {ids : List Id} {live : List Bool} (h : AxisAt w own t p ids live) (o : Obj) : AxisAt (w.alloc o) own t p ids live := h.keep (Same.alloc o)
theorem AxisAt.other {w w' : World} {own own' : Tags} {t u p : Nat} {ids : List Id} {live : List Bool} (h : AxisAt w own t p ids live) (k : Tr own u w own' w') (hu : t ≠ u) : AxisAt w' own' t p ids live := h.keep (k.toSame hu)

def ex3 : List Id := [(0, 1), (0, 2), (0, 3)]
theorem ex_new : newL ex3 = ex3 := by decide
theorem ex_del : turnR ex3 [true, true, true] (0, 2) false = 0 ∧ turnL ex3 [true, true, true] (0, 2) false = [true, false, true] := by decide
theorem ex_at : atR (aliveOf ex3 [true, false, true]) 1 = .tuple #[.agg #[.int .i64 0, .int .i64 3], .bool true] := by rfl
theorem ex_bet : betweenL ex3 [true, false, true] (0, 2) (0, 3) = [(0, 3)] := by decide
theorem ex_rev : turnR ex3 [true, false, true] (0, 2) true = 0 ∧ turnL ex3 [true, false, true] (0, 2) true = [true, true, true] := by decide
theorem ex_at2 : atR (aliveOf ex3 [true, true, true]) 1 = .tuple #[.agg #[.int .i64 0, .int .i64 2], .bool true] := by rfl
theorem ex_ids {w : World} {own : Tags} {X : Nat} (h : Blk w X 24 #[.int .i64 0, .int .i64 1, .int .i64 0, .int .i64 2, .int .i64 0, .int .i64 3]) (h0 : own X = 0) : IdsR w own 0 (some ⟨X, 0, none⟩) ex3 := fun _ => by
  refine ⟨X, 0, rfl, h0, h.lt, fun i hi => ?_⟩
  rw [h.cell, h.cell]
  match i, hi with
  | 0, _ => exact ⟨rfl, rfl⟩
  | 1, _ => exact ⟨rfl, rfl⟩
  | 2, _ => exact ⟨rfl, rfl⟩

theorem one_ids {w : World} {own : Tags} {X : Nat} {a b : Int} (h : Blk w X 24 #[.int .i64 a, .int .i64 b]) (h0 : own X = 0) : IdsR w own 0 (some ⟨X, 0, none⟩) [(a, b)] := fun _ => by
  refine ⟨X, 0, rfl, h0, h.lt, fun i hi => ?_⟩
  rw [h.cell, h.cell]
  match i, hi with
  | 0, _ => exact ⟨rfl, rfl⟩

set_option maxRecDepth 100000 in
set_option maxHeartbeats 4000000 in
theorem awake_c (w : World) : Calls Try.prog 16 #[] w fun e w' => e = .returned (.bool true) ∧ Below w.heap.size w w' := by
  have k0 := ((((Clean.start w).alloc (.cells #[.int .i64 0, .int .i64 1] 24)).alloc (.cells #[.int .i64 0, .int .i64 2] 24)).alloc (.cells #[.int .i64 0, .int .i64 3] 24))
  have x0 := ((Box.new (Clean.start w).fresh 24 #[.int .i64 0, .int .i64 1]).alloc (.cells #[.int .i64 0, .int .i64 2] 24)).alloc (.cells #[.int .i64 0, .int .i64 3] 24)
  have y0 := (Box.new ((Clean.start w).alloc (.cells #[.int .i64 0, .int .i64 1] 24)).fresh 24 #[.int .i64 0, .int .i64 2]).alloc (.cells #[.int .i64 0, .int .i64 3] 24)
  have z0 := (Box.new (((Clean.start w).alloc (.cells #[.int .i64 0, .int .i64 1] 24)).alloc (.cells #[.int .i64 0, .int .i64 2] 24)).fresh 24 #[.int .i64 0, .int .i64 3])
  simp only [World.size_alloc] at y0 z0
  have K0 := Lib.hid k0
  have X0 := Lib.hid x0
  have Y0 := Lib.hid y0
  have Z0 := Lib.hid z0
  clear k0 x0 y0 z0
  have hsz := Lib.hid (show (((w.alloc (Obj.cells #[.int .i64 0, .int .i64 1] 24)).alloc (Obj.cells #[.int .i64 0, .int .i64 2] 24)).alloc (Obj.cells #[.int .i64 0, .int .i64 3] 24)).heap.size = w.heap.size + 1 + 1 + 1 by simp)
  go_enter Try.func16, Try.ntmps16
  go_wp2_with fail
  generalize ((w.alloc (Obj.cells #[.int .i64 0, .int .i64 1] 24)).alloc (Obj.cells #[.int .i64 0, .int .i64 2] 24)).alloc (Obj.cells #[.int .i64 0, .int .i64 3] 24) = W0 at *
  have s0 := Box.new K0.out.fresh 24 #[.int .i64 0, .int .i64 1, .int .i64 0, .int .i64 2, .int .i64 0, .int .i64 3]
  rw [hsz.out] at s0
  refine (new_c _ 3 3 ex3 _ (fun _ => 0) 0 1 (ex_ids s0.blk s0.zero) rfl (by simp [maxLen]) (by decide)).mono ?_
  rintro e w1 ⟨own1, q, rfl, tr1, hq, a1⟩
  rw [ex_new] at a1
  have A1 : Hid (AxisAt w1 own1 1 q ex3 [true, true, true]) := a1
  have K1 := Lib.hid ((K0.out.alloc _).tr tr1 (by decide))
  have Y1 := Lib.hid ((Y0.out.alloc _).tr tr1 (by decide))
  have Z1 := Lib.hid ((Z0.out.alloc _).tr tr1 (by decide))
  have c1 := Y1.out.blk.cell 0
  have c2 := Y1.out.blk.cell 1
  simp at c1 c2
  clear s0 tr1 a1 hq K0 X0 Y0 Z0 hsz
  go_wp2_with fail
  refine (delete_c w1 own1 1 q ex3 _ 0 2 A1.out).mono ?_
  rintro e w2 ⟨rfl, own2, tr2, a2⟩
  rw [ex_del.1]
  rw [ex_del.2] at a2
  have A2 := Lib.hid a2
  have K2 := Lib.hid (K1.out.tr tr2 (by decide))
  have Y2 := Lib.hid (Y1.out.tr tr2 (by decide))
  have Z2 := Lib.hid (Z1.out.tr tr2 (by decide))
  clear a2 tr2 A1 K1 Y1 Z1 c1 c2
  go_wp2_with fail
  refine (at_c w2 own2 1 q ex3 _ 1 A2.out K2.out.fresh (by decide)).mono ?_
  rintro e w3 ⟨rfl, own3, tr3, a3⟩
  rw [ex_at]
  have A3 := Lib.hid (a3.alloc (.cells #[.int .i64 0, .int .i64 3] 24))
  have K3 := Lib.hid ((K2.out.tr tr3 (by decide)).alloc (.cells #[.int .i64 0, .int .i64 3] 24))
  have Y3 := Lib.hid ((Y2.out.tr tr3 (by decide)).alloc (.cells #[.int .i64 0, .int .i64 3] 24))
  have Z3 := Lib.hid ((Z2.out.tr tr3 (by decide)).alloc (.cells #[.int .i64 0, .int .i64 3] 24))
  have T3 := Lib.hid (Box.new (K2.out.tr tr3 (by decide)).fresh 24 #[.int .i64 0, .int .i64 3])
  have c1 := Y3.out.blk.cell 0
  have c2 := Y3.out.blk.cell 1
  have c3 := Z3.out.blk.cell 0
  have c4 := Z3.out.blk.cell 1
  simp at c1 c2 c3 c4
  clear a3 tr3 A2 K2 Y2 Z2
  go_wp2_with fail
  refine (between_c _ own3 1 2 q ex3 _ 0 2 0 3 A3.out K3.out.fresh (by decide)).mono ?_
  rintro e w5 ⟨own4, w4, tr4, a4, v, own5, rfl, tr5, row5⟩
  rw [ex_bet] at row5
  obtain ⟨A, cv, rfl, _⟩ := row5.form
  have A5 := Lib.hid (a4.other tr5 (by decide))
  have K5 := Lib.hid ((K3.out.tr tr4 (by decide)).tr tr5 (by decide))
  have Y5 := Lib.hid ((Y3.out.tr tr4 (by decide)).tr tr5 (by decide))
  have Z5 := Lib.hid ((Z3.out.tr tr4 (by decide)).tr tr5 (by decide))
  have T5 := Lib.hid ((T3.out.tr tr4 (by decide)).tr tr5 (by decide))
  have R5 := Lib.hid row5
  clear c1 c2 c3 c4
  have c1 := Y5.out.blk.cell 0
  have c2 := Y5.out.blk.cell 1
  simp at c1 c2
  clear a4 tr4 tr5 row5 A3 K3 Y3 Z3 T3
  go_wp2_with fail
  refine (revive_c w5 own5 1 q ex3 _ 0 2 A5.out).mono ?_
  rintro e w6 ⟨rfl, own6, tr6, a6⟩
  rw [ex_rev.1]
  rw [ex_rev.2] at a6
  have A6 := Lib.hid a6
  have K6 := Lib.hid (K5.out.tr tr6 (by decide))
  have Y6 := Lib.hid (Y5.out.tr tr6 (by decide))
  have Z6 := Lib.hid (Z5.out.tr tr6 (by decide))
  have T6 := Lib.hid (T5.out.tr tr6 (by decide))
  have R6 := Lib.hid (R5.out.keep (tr6.toSame (by decide)))
  clear a6 tr6 A5 K5 Y5 Z5 T5 R5 c1 c2
  go_wp2_with fail
  refine (at_c w6 own6 1 q ex3 _ 1 A6.out K6.out.fresh (by decide)).mono ?_
  rintro e w7 ⟨rfl, own7, tr7, a7⟩
  rw [ex_at2]
  have K7 := Lib.hid ((K6.out.tr tr7 (by decide)).alloc (.cells #[.int .i64 0, .int .i64 2] 24))
  have Y7 := Lib.hid ((Y6.out.tr tr7 (by decide)).alloc (.cells #[.int .i64 0, .int .i64 2] 24))
  have Z7 := Lib.hid ((Z6.out.tr tr7 (by decide)).alloc (.cells #[.int .i64 0, .int .i64 2] 24))
  have T7 := Lib.hid ((T6.out.tr tr7 (by decide)).alloc (.cells #[.int .i64 0, .int .i64 2] 24))
  have U7 := Lib.hid (Box.new (K6.out.tr tr7 (by decide)).fresh 24 #[.int .i64 0, .int .i64 2])
  have R7 := Lib.hid ((R6.out.keep (tr7.toSame (by decide))).keep (Same.alloc (.cells #[.int .i64 0, .int .i64 2] 24)))
  have hs7 := Lib.hid (World.size_alloc w7 (.cells #[.int .i64 0, .int .i64 2] 24))
  clear a7 tr7 A6 K6 Y6 Z6 T6 R6
  have c1 := Y7.out.blk.cell 0
  have c2 := Y7.out.blk.cell 1
  have c3 := Z7.out.blk.cell 0
  have c4 := Z7.out.blk.cell 1
  have c5 := T7.out.blk.cell 0
  have c6 := T7.out.blk.cell 1
  simp at c1 c2 c3 c4 c5 c6
  have q1 : ideq 0 3 0 3 = true := by decide
  have q2 : ideq 0 2 0 2 = true := by decide
  go_wp2_with fail
  have v1 := Box.new K7.out.fresh 24 #[.int .i64 0, .int .i64 3]
  rw [hs7.out] at v1
  have k8 := Lib.hid (K7.out.alloc (.cells #[.int .i64 0, .int .i64 3] 24))
  refine (same_c A _ 1 1 cv 1 [(0, 3)] [(0, 3)] _ own7 own7 2 0 ((R7.out.keep (Same.alloc (.cells #[.int .i64 0, .int .i64 3] 24))).toIdsR.2) (one_ids v1.blk v1.zero) rfl rfl (by simp [maxLen])).mono ?_
  rintro e w8 ⟨rfl, nq, rfl⟩
  rw [decide_eq_true rfl]
  have U8 := Lib.hid ((U7.out.alloc (.cells #[.int .i64 0, .int .i64 3] 24)).drewN nq)
  have Y8 := Lib.hid ((Y7.out.alloc (.cells #[.int .i64 0, .int .i64 3] 24)).drewN nq)
  clear c1 c2 c3 c4 c5 c6 v1
  have c1 := Y8.out.blk.cell 0
  have c2 := Y8.out.blk.cell 1
  have c5 := U8.out.blk.cell 0
  have c6 := U8.out.blk.cell 1
  have k9 := Lib.hid (k8.out.drewN nq)
  simp only [List.getElem?_toArray, List.getElem?_cons_zero, List.getElem?_cons_succ] at c1 c2 c5 c6
  generalize (((w7.alloc (Obj.cells #[.int .i64 0, .int .i64 2] 24)).alloc (Obj.cells #[.int .i64 0, .int .i64 3] 24)).drewN nq) = W9 at *
  go_wp2
  go_ret
  exact ⟨rfl, k9.out.below⟩
end Go.Proofs.Ytgmlhpkhecbkoaa
