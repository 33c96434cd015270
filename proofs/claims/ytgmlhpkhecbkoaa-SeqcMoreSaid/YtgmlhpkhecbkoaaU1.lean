/-
  counterpanelaw36.SeqcMore: its walk. Conditions: the arguments can be read.
-/
import Derived.Test.YtgmlhpkhecbkoaaTC
namespace Go.Proofs.Ytgmlhpkhecbkoaa
open Go.RowKit

/-- What SeqcMore holds in its loop. -/
structure MoreS (w : World) (q X : Nat) (cs : Array Value) (FI : List Id) (PS : List (Id × Id)) (vW vN : Value) (OL NL : List Id) (v : Value) (FL : List Id) (ow : Tags) (wr : World) : Prop where
  clean : Clean w ow wr
  box : Box wr ow X 42 cs
  sh : ShAt wr ow 1 q FI PS []
  rW : Row wr ow 2 24 2 vW OL.length (idCells OL)
  rN : Row wr ow 3 24 2 vN NL.length (idCells NL)
  rR : Row wr ow 4 24 2 v FL.length (idCells FL)
section
variable {w wr wr' : World} {q X : Nat} {cs : Array Value} {FI : List Id} {PS : List (Id × Id)} {vW vN : Value} {OL NL : List Id} {v v' : Value} {FL FL' : List Id} {ow ow' : Tags}
theorem MoreS.next (h : MoreS w q X cs FI PS vW vN OL NL v FL ow wr) (k : Below wr.heap.size wr wr') : MoreS w q X cs FI PS vW vN OL NL v FL ow wr' :=
  ⟨h.clean.next k, h.box.next k, h.sh.next k, h.rW.keep (Same.below k), h.rN.keep (Same.below k), h.rR.keep (Same.below k)⟩
theorem MoreS.put (h : MoreS w q X cs FI PS vW vN OL NL v FL ow wr) (k : Tr ow 4 wr ow' wr') (r : Row wr' ow' 4 24 2 v' FL'.length (idCells FL')) : MoreS w q X cs FI PS vW vN OL NL v' FL' ow' wr' :=
  ⟨h.clean.tr k (by decide), h.box.tr k (by decide), h.sh.other k (by decide), h.rW.keep (k.toSame (by decide)), h.rN.keep (k.toSame (by decide)), r⟩
end
theorem filt_yes {NL : List Id} {k : Nat} {z y : Id} (h : NL[k]? = some z) (hz : z ≠ y) : (NL.take (k + 1)).filter (fun x => decide (x ≠ y)) = (NL.take k).filter (fun x => decide (x ≠ y)) ++ [z] := by
  rw [take_at h, List.filter_append]; simp [hz]
theorem filt_no {NL : List Id} {k : Nat} {y : Id} (h : NL[k]? = some y) : (NL.take (k + 1)).filter (fun x => decide (x ≠ y)) = (NL.take k).filter (fun x => decide (x ≠ y)) := by
  rw [take_at h, List.filter_append]; simp
theorem filt_le (NL : List Id) (k : Nat) (y : Id) : ((NL.take k).filter (fun x => decide (x ≠ y))).length ≤ NL.length := Nat.le_trans (List.length_filter_le _ _) (by simp; omega)

set_option maxRecDepth 100000 in
set_option maxHeartbeats 4000000 in
theorem more_few (A D : Option Addr) (n c m d : Nat) (ids0 : List Id) (ps : List (Id × Id)) (b1 b2 x y : Int) (w : World) (hR : IdsR w (fun _ => 0) 0 A ids0) (hn : ids0.length = n) (hD : ManyR putOf 4 w (fun _ => 0) 0 D ps) (hm : ps.length = m) (h1 : n ≤ 12) (h2 : m ≤ 12) :
    Calls Try.prog 6 #[.slice A n c, .slice D m d, .agg #[.int .i64 b1, .int .i64 b2, .int .i64 x, .int .i64 y]] w fun e w' => e = .returned (.bool true) ∧ Below w.heap.size w w' := by
  have hn' := Lib.hid hn
  have hm' := Lib.hid hm
  have HR := Lib.hid hR
  have HD := Lib.hid hD
  clear hn hm hR hD
  have q1 : ¬ ((12 : Int) < (n : Int)) := by omega
  have q2 : ¬ ((12 : Int) < (m : Int)) := by omega
  go_enter Try.func6, Try.ntmps6
  go_wp2_with fail
  have k0 := (Clean.start w).alloc (.cells #[.int .i64 b1, .int .i64 b2, .int .i64 x, .int .i64 y] 42)
  have x0 := Box.new (Clean.start w).fresh 42 #[.int .i64 b1, .int .i64 b2, .int .i64 x, .int .i64 y]
  refine (awake24_c _).mono ?_
  rintro e w1 ⟨rfl, hB⟩
  have K1 := Lib.hid (k0.next hB)
  have X1 := Lib.hid (x0.next hB)
  clear k0 hB x0
  go_wp2_with fail
  have r1 := HR.out.keep K1.out.below.size (Same.below K1.out.below)
  refine (snew_c A n c ids0 w1 (fun _ => 0) 0 1 r1 hn'.out (by simp [maxLen]; omega) (by decide) K1.out.fresh (by decide)).mono ?_
  rintro e w2 ⟨own2, q, rfl, tr2, a2⟩
  have K2 := Lib.hid (K1.out.tr tr2 (by decide))
  have X2 := Lib.hid (X1.out.tr tr2 (by decide))
  have D2 := Lib.hid ((HD.out.keep K1.out.below.size (Same.below K1.out.below)).keep tr2.size (tr2.toSame (by decide)))
  have A2 := Lib.hid a2
  clear K1 X1 tr2 a2 r1
  go_wp2_with fail
  refine (put27_c w2 own2 1 q m d D (newL ids0) [] [] ps A2.out K2.out.fresh (by decide) D2.out hm'.out (by omega)).mono ?_
  rintro e w3 ⟨rfl, own3, tr3, a3⟩
  have K3 := Lib.hid (K2.out.tr tr3 (by decide))
  have X3 := Lib.hid (X2.out.tr tr3 (by decide))
  obtain ⟨PS, hPS⟩ : ∃ PS, passes (newL ids0) ps m [] = PS := ⟨_, rfl⟩
  rw [hPS] at a3
  have A3 := Lib.hid a3
  clear K2 X2 tr3 a3 D2 A2 hPS
  generalize newL ids0 = FI at *
  go_wp2_with fail
  refine (allq_c w3 own3 1 2 q FI PS [] A3.out K3.out.fresh (by decide) (by decide)).mono ?_
  rintro e w4 ⟨v4, own4, rfl, tr4, row4⟩
  have K4 := Lib.hid (K3.out.tr tr4 (by decide))
  have X4 := Lib.hid (X3.out.tr tr4 (by decide))
  have A4 := Lib.hid (A3.out.other tr4 (by decide))
  obtain ⟨AW, cW, rfl, _⟩ := row4.form
  have R4 := Lib.hid row4
  clear K3 X3 A3 tr4 row4
  have c0 := X4.out.blk.cell 0
  have c1 := X4.out.blk.cell 1
  have c2 := X4.out.blk.cell 2
  have c3 := X4.out.blk.cell 3
  simp only [List.getElem?_toArray, List.getElem?_cons_zero, List.getElem?_cons_succ] at c0 c1 c2 c3
  have hX := X4.out.blk.lt
  go_wp2_with fail
  refine (sinsert_c w4 own4 1 q FI PS [] b1 b2 x y A4.out K4.out.fresh (by decide)).mono ?_
  rintro e w5 ⟨rfl, own5, tr5, a5⟩
  have K5 := Lib.hid (K4.out.tr tr5 (by decide))
  have X5 := Lib.hid (X4.out.tr tr5 (by decide))
  have R5 := Lib.hid (R4.out.keep (tr5.toSame (by decide)))
  have A5 := Lib.hid a5
  have hwf := A4.out.wf
  obtain ⟨OL, hOL⟩ : ∃ OL, orderL FI PS = OL := ⟨_, rfl⟩
  have hOl : OL.length ≤ 1000 := by rw [← hOL, (order_facts hwf).2.2]; exact hwf.len
  have HW := Lib.hid hwf
  have HOL := Lib.hid hOL
  rw [hOL] at R5 ⊢
  clear K4 X4 R4 A4 tr5 a5 c0 c1 c2 c3 hX hwf hOL
  by_cases hee : insS FI PS (b1, b2) (x, y) = 0
  · rw [hee]
    have HE := Lib.hid hee
    have A6 := Lib.hid (show ShAt w5 own5 1 q FI (PS ++ [((b1, b2), (x, y))]) [] by have := A5.out; unfold insPuts at this; rwa [if_pos hee] at this)
    clear hee A5
    go_wp2_with fail
    have c2 := X5.out.blk.cell 2
    have c3 := X5.out.blk.cell 3
    refine (allq_c w5 own5 1 3 q FI _ [] A6.out K5.out.fresh (by decide) (by decide)).mono ?_
    rintro e w6 ⟨v6, own6, rfl, tr6, row6⟩
    have K6 := Lib.hid (K5.out.tr tr6 (by decide))
    have X6 := Lib.hid (X5.out.tr tr6 (by decide))
    have R6 := Lib.hid (R5.out.keep (tr6.toSame (by decide)))
    have B6 := Lib.hid (A6.out.other tr6 (by decide))
    have hnl : (orderL FI (PS ++ [((b1, b2), (x, y))])).length ≤ 1000 := by rw [(order_facts A6.out.wf).2.2]; exact A6.out.wf.len
    have HMO := Lib.hid (order_more HW.out HE.out)
    obtain ⟨NL, hNL⟩ : ∃ NL, orderL FI (PS ++ [((b1, b2), (x, y))]) = NL := ⟨_, rfl⟩
    rw [hNL] at row6 hnl HMO
    rw [HOL.out] at HMO
    obtain ⟨AN, cN, rfl, _⟩ := row6.form
    have N6 := Lib.hid row6
    clear K5 X5 R5 A6 tr6 row6 c2 c3 hNL
    go_wp2_with fail
    have S6 : Hid (MoreS w q w.heap.size #[.int .i64 b1, .int .i64 b2, .int .i64 x, .int .i64 y] FI (PS ++ [((b1, b2), (x, y))]) (.slice AW OL.length cW) (.slice AN NL.length cN) OL NL (.slice none 0 0) [] own6 w6) := ⟨K6.out, X6.out, B6.out, R6.out, N6.out, by simpa [idCells] using Row.nil w6 own6 4 24 2⟩
    clear K6 X6 B6 R6 N6
    go_loopw [9, 46] (fun r i wr => ∃ (k : Nat) (ow : Tags), k ≤ NL.length ∧ i = .int .i64 k ∧ Hid (MoreS w q w.heap.size #[.int .i64 b1, .int .i64 b2, .int .i64 x, .int .i64 y] FI (PS ++ [((b1, b2), (x, y))]) (.slice AW OL.length cW) (.slice AN NL.length cN) OL NL r ((NL.take k).filter (fun z => decide (z ≠ (x, y)))) ow wr)) (fun r i _ => NL.length - (intOf i).toNat)
    case atStart => exact ⟨0, own6, Nat.zero_le _, rfl, S6.out⟩
    case round =>
      clear S6
      obtain ⟨k, ow, hk, rfl, hS⟩ := hrel
      obtain ⟨AR, cR, hrv, _⟩ := hS.out.rR.form
      subst hrv
      by_cases hlt : k < NL.length
      · obtain ⟨b1', o1, rfl, _, _, hc1⟩ := hS.out.rN.toIdsR.2 (fun e => by rw [e] at hlt; simp at hlt)
        obtain ⟨g1, g2⟩ := hc1 k hlt
        have e1 := List.getElem?_eq_getElem hlt
        clear hc1
        generalize NL[k] = z at *
        obtain ⟨z1, z2⟩ := z
        dsimp only at g1 g2
        have hk0 : (0 : Int) ≤ (k : Int) := by omega
        have hkn : (k : Int) < (NL.length : Int) := by omega
        have c2 := hS.out.box.blk.cell 2
        have c3 := hS.out.box.blk.cell 3
        have hX := hS.out.box.blk.lt
        simp only [List.getElem?_toArray, List.getElem?_cons_zero, List.getElem?_cons_succ] at c2 c3
        cases hq : ideq z1 z2 x y
        · have hne := ideq_false.1 hq
          have HF := Lib.hid (filt_yes (y := (x, y)) e1 (fun e => hne (by simpa using e)))
          have hfl := filt_le NL k (x, y)
          generalize (NL.take k).filter (fun z => decide (z ≠ (x, y))) = FL at *
          clear e1 hne
          obtain ⟨i0, hi, hz0, hz1, hz2⟩ := info_parts Try.info24
          have bl2 : Below wr.heap.size wr ((wr.alloc (.cells #[.int .i64 z1, .int .i64 z2] 24)).alloc (.cells #[.int .i64 z1, .int .i64 z2] 24)) := ((Below.refl _ _).alloc (Nat.le_refl _) _).alloc (by simp) _
          have S2 := Lib.hid (hS.out.next bl2)
          clear bl2
          go_wp2_with (at_builtin; refine wpList_append_own_at _ rfl _ _ _ rfl 0 24 i0 _ 2 16 Try.underlying22 hi hz0 hz1 hz2 rfl (by omega) _ _ _ rfl S2.out.rR.1 ⟨wr.heap.size + 1, 0, none⟩ 1 1 [.int .i64 z1, .int .i64 z2] rfl rfl (by have := news_new (wr.alloc (.cells #[.int .i64 z1, .int .i64 z2] 24)) (wr.heap.size + 1) (by simp) #[.int .i64 z1, .int .i64 z2] 24; exact this) (by simp [Value.oneCell']) (by simp only [maxLen]; omega) (by omega) (Nat.zero_le _) ?_; intro v' w2 hown2 hgrow2 _ hat2; obtain ⟨gN, cN', rfl⟩ := ownsRow_slice hown2 (by omega); obtain ⟨ow2, tr2, _, r2⟩ := S2.out.rR.app2 (Tr.refl ow 4 _) hgrow2 hown2 (lies_two hat2 (hown2.lt gN rfl).2); have S3 := Lib.hid (S2.out.put (FL' := FL ++ [(z1, z2)]) tr2 (by simpa [idCells_append, idCells] using r2)); clear hown2 hgrow2 hat2 tr2 r2)
          go_roundw
          case rel => exact ⟨k + 1, ow2, by omega, by go_num, by show MoreS _ _ _ _ _ _ _ _ _ _ _ _ _ _; rw [HF.out]; exact S3.out⟩
          case measure => simp [intOf]; omega
        · obtain ⟨rfl, rfl⟩ := ideq_true.1 hq
          have HF := Lib.hid (filt_no e1)
          clear e1
          have S2 := Lib.hid (hS.out.next ((Below.refl _ wr).alloc (Nat.le_refl _) (.cells #[.int .i64 z1, .int .i64 z2] 24)))
          go_wp2_with fail
          go_roundw
          case rel => exact ⟨k + 1, ow, by omega, by go_num, by show MoreS _ _ _ _ _ _ _ _ _ _ _ _ _ _; rw [HF.out]; exact S2.out⟩
          case measure => simp [intOf]; omega
      · have hkk : k = NL.length := by omega
        subst hkk
        have hkn : ¬ ((NL.length : Int) < (NL.length : Int)) := by omega
        rw [List.take_length, HMO.out] at hS
        rw [List.take_length, HMO.out]
        have c2 := hS.out.box.blk.cell 2
        have c3 := hS.out.box.blk.cell 3
        have hX := hS.out.box.blk.lt
        simp only [List.getElem?_toArray, List.getElem?_cons_zero, List.getElem?_cons_succ] at c2 c3
        go_wp2_with fail
        refine (same28_c AR AW OL.length OL.length cR cW OL OL wr ow ow 4 2 hS.out.rR.toIdsR.2 hS.out.rW.toIdsR.2 rfl rfl (by omega)).mono ?_
        rintro e w7 ⟨rfl, hb7⟩
        rw [decide_eq_true rfl]
        have S7 := Lib.hid (hS.out.next hb7)
        clear hb7 hS c2 c3 hX
        have c2 := S7.out.box.blk.cell 2
        have c3 := S7.out.box.blk.cell 3
        have hX := S7.out.box.blk.lt
        simp only [List.getElem?_toArray, List.getElem?_cons_zero, List.getElem?_cons_succ] at c2 c3
        go_wp2_with fail
        refine (shas_c w7 ow 1 q FI _ [] x y S7.out.sh).mono ?_
        rintro e w8 ⟨rfl, hb8⟩
        rw [show has FI (PS ++ [((b1, b2), (x, y))]) (x, y) = true from has_iff.2 (.inr (by simp))]
        have S8 := Lib.hid (S7.out.next hb8)
        clear hb8 S7 c2 c3 hX
        go_wp2_with fail
        go_ret
        exact ⟨rfl, S8.out.clean.below⟩
  · have hne : (insS FI PS (b1, b2) (x, y) != 0) = true := by simpa using hee
    have A6 := Lib.hid (show ShAt w5 own5 1 q FI PS [] by have := A5.out; unfold insPuts at this; rwa [if_neg hee] at this)
    clear hee A5
    generalize insS FI PS (b1, b2) (x, y) = ee at *
    go_wp2_with fail
    refine (allq_c w5 own5 1 3 q FI PS [] A6.out K5.out.fresh (by decide) (by decide)).mono ?_
    rintro e w6 ⟨v6, own6, rfl, tr6, row6⟩
    rw [HOL.out] at row6
    have K6 := Lib.hid (K5.out.tr tr6 (by decide))
    have R6 := Lib.hid (R5.out.keep (tr6.toSame (by decide)))
    obtain ⟨AN, cN, rfl, _⟩ := row6.form
    have N6 := Lib.hid row6
    clear K5 X5 R5 A6 tr6 row6
    go_wp2_with fail
    refine (same28_c AN AW OL.length OL.length cN cW OL OL w6 own6 own6 3 2 N6.out.toIdsR.2 R6.out.toIdsR.2 rfl rfl (by omega)).mono ?_
    rintro e w7 ⟨rfl, hb7⟩
    rw [decide_eq_true rfl]
    have K7 := Lib.hid (K6.out.next hb7)
    clear hb7
    go_wp2_with fail
    go_ret
    exact ⟨rfl, K7.out.below⟩

set_option maxRecDepth 100000 in
set_option maxHeartbeats 4000000 in
theorem more_many (A D : Option Addr) (n c m d : Nat) (b1 b2 x y : Int) (w : World) (h : 12 < n ∨ 12 < m) :
    Calls Try.prog 6 #[.slice A n c, .slice D m d, .agg #[.int .i64 b1, .int .i64 b2, .int .i64 x, .int .i64 y]] w fun e w' => e = .returned (.bool true) ∧ Below w.heap.size w w' := by
  go_enter Try.func6, Try.ntmps6
  go_wp2_with fail
  have k0 := (Clean.start w).alloc (.cells #[.int .i64 b1, .int .i64 b2, .int .i64 x, .int .i64 y] 42)
  refine (awake24_c _).mono ?_
  rintro e w1 ⟨rfl, hB⟩
  have K1 := Lib.hid (k0.next hB)
  clear k0 hB
  by_cases h1 : 12 < n
  · have h2 : (12 : Int) < (n : Int) := by omega
    clear h h1
    go_wp2_with fail
    refine (awake24_c _).mono ?_
    rintro e w2 ⟨rfl, hB⟩
    have K2 := Lib.hid (K1.out.next hB)
    clear K1 hB
    go_wp2_with fail
    go_ret
    exact ⟨rfl, K2.out.below⟩
  · have h2 : ¬ (12 : Int) < (n : Int) := by omega
    have h3 : (12 : Int) < (m : Int) := by omega
    clear h h1
    go_wp2_with fail
    refine (awake24_c _).mono ?_
    rintro e w2 ⟨rfl, hB⟩
    have K2 := Lib.hid (K1.out.next hB)
    clear K1 hB
    go_wp2_with fail
    go_ret
    exact ⟨rfl, K2.out.below⟩
theorem more_any (A D : Option Addr) (n c m d : Nat) (ids0 : List Id) (ps : List (Id × Id)) (b1 b2 x y : Int) (w : World) (hR : IdsR w (fun _ => 0) 0 A ids0) (hn : ids0.length = n) (hD : ManyR putOf 4 w (fun _ => 0) 0 D ps) (hm : ps.length = m) :
    Calls Try.prog 6 #[.slice A n c, .slice D m d, .agg #[.int .i64 b1, .int .i64 b2, .int .i64 x, .int .i64 y]] w fun e w' => e = .returned (.bool true) ∧ Below w.heap.size w w' := by
  by_cases h1 : n ≤ 12
  · by_cases h2 : m ≤ 12
    · exact more_few A D n c m d ids0 ps b1 b2 x y w hR hn hD hm h1 h2
    · exact more_many A D n c m d b1 b2 x y w (.inr (by omega))
  · exact more_many A D n c m d b1 b2 x y w (.inl (by omega))
end Go.Proofs.Ytgmlhpkhecbkoaa
