/-
  counterpanelaw36.SeqcNear: its walk. Conditions: the arguments can be read.
-/
import Derived.Test.YtgmlhpkhecbkoaaU3
namespace Go.Proofs.Ytgmlhpkhecbkoaa
open Go.RowKit

/-- What SeqcNear holds in its loop. -/
structure NearS (w : World) (q : Nat) (FI : List Id) (PS : List (Id × Id)) (vW : Value) (OL : List Id) (ow : Tags) (wr : World) : Prop where
  clean : Clean w ow wr
  sh : ShAt wr ow 1 q FI PS []
  rW : Row wr ow 2 24 2 vW OL.length (idCells OL)
section
variable {w wr wr' : World} {q : Nat} {FI : List Id} {PS : List (Id × Id)} {vW : Value} {OL : List Id} {ow ow' : Tags}
theorem NearS.next (h : NearS w q FI PS vW OL ow wr) (k : Below wr.heap.size wr wr') : NearS w q FI PS vW OL ow wr' :=
  ⟨h.clean.next k, h.sh.next k, h.rW.keep (Same.below k)⟩
end
theorem near_plain {FI : List Id} {PS : List (Id × Id)} (hw : Wf FI PS) (hl : FI.length + PS.length < 1000) (N : Int) (hN : 0 ≤ N) (hx : ∀ x ∈ orderL FI PS, x.2 ≤ N) (k : Nat) (b : Id) (hk : ((0, 0) :: orderL FI PS)[k]? = some b) :
    insS FI PS b (1, N + 1) = 0 ∧ orderL FI (PS ++ [(b, (1, N + 1))]) = (orderL FI PS).take k ++ (1, N + 1) :: (orderL FI PS).drop k := by
  have hf := order_facts hw
  have h1 : insS FI PS b (1, N + 1) = 0 := by
    unfold insS
    rw [if_neg (by simp), if_neg, if_neg, if_neg (by omega)]
    · rintro ⟨h1, h2⟩
      cases k with
      | zero => simp at hk; exact h1 hk.symm
      | succ k =>
        have : b ∈ orderL FI PS := List.mem_of_getElem? (by simpa using hk)
        rw [(hf.2.1 b).1 this] at h2
        cases h2
    · intro h
      have := hx _ ((hf.2.1 _).2 h)
      simp at this
      omega
  exact ⟨h1, order_near hw h1 (fun x hxx => by have := hx x hxx; simp; omega) k hk⟩
theorem few_puts (ids0 : List Id) (ps : List (Id × Id)) (h1 : ids0.length ≤ 12) (h2 : ps.length ≤ 12) (m : Nat) : (newL ids0).length + (passes (newL ids0) ps m []).length < 1000 := by
  have hg := newL_good ids0
  have h0 : Wf (newL ids0) [] := Wf.new _ hg.1 hg.2.1 hg.2.2
  have hw := h0.passes ps m
  have hl := newL_len ids0
  have hs := passes_sub (first := newL ids0) ps m
  have : (passes (newL ids0) ps m []).length ≤ ps.length := by
    have hnd := nodup_of_map Prod.snd _ hw.pnd
    exact List.Nodup.length_le_of_subset hnd hs
  omega
theorem IdsR.part {w : World} {own : Tags} {t : Nat} {A A' : Option Addr} {l : List Id} (h : IdsR w own t A l) (k j : Nat) (hA : (l.drop k).take j ≠ [] → ∀ b off, A = some ⟨b, off, none⟩ → A' = some ⟨b, off + k * 2, none⟩) : IdsR w own t A' ((l.drop k).take j) := fun hl => by
  obtain ⟨b, off, e, h1, h2, h3⟩ := h (fun e => hl (by rw [e]; simp))
  refine ⟨b, off + k * 2, hA hl b off e, h1, h2, fun i hi => ?_⟩
  have hi2 : i < j ∧ k + i < l.length := by simp at hi; omega
  have := h3 (k + i) hi2.2
  rw [show off + k * 2 + i * 2 = off + (k + i) * 2 by omega]
  simpa [List.getElem_take, List.getElem_drop] using this
theorem Row.shape {w : World} {own : Tags} {t : Nat} {e : TypeId} {size : Nat} {A : Option Addr} {n c : Nat} {xs : List Value} (h : Row w own t e size (.slice A n c) n xs) : (A = none ∧ n = 0 ∧ c = 0) ∨ ∃ g, A = some ⟨g, 0, none⟩ ∧ n ≤ c := by
  rcases h.1.2 with ⟨hv, h0⟩ | ⟨g, cap, cur, hv, _, _, h1, _⟩
  · cases hv; exact .inl ⟨rfl, rfl, rfl⟩
  · cases hv; exact .inr ⟨g, rfl, h1⟩
theorem near_len (OL : List Id) (k : Nat) (hk : k ≤ OL.length) (z : Id) : (OL.take k ++ z :: OL.drop k).length = OL.length + 1 := by simp; omega
theorem near_at (OL : List Id) (k : Nat) (hk : k ≤ OL.length) (z : Id) : (OL.take k ++ z :: OL.drop k)[k]? = some z := by
  rw [List.getElem?_append_right (by simp; omega), List.length_take, Nat.min_eq_left hk]; simp
theorem near_take (OL : List Id) (k : Nat) (hk : k ≤ OL.length) (z : Id) : ((OL.take k ++ z :: OL.drop k).drop 0).take k = (OL.drop 0).take k := by
  simp [List.take_append, Nat.min_eq_left hk]
theorem near_drop (OL : List Id) (k : Nat) (hk : k ≤ OL.length) (z : Id) : (((OL.take k ++ z :: OL.drop k).drop (k + 1)).take (OL.length - k)) = (OL.drop k).take (OL.length - k) := by
  rw [List.drop_append, List.drop_eq_nil_of_le (by simp; omega)]
  simp [Nat.min_eq_left hk]
theorem OLtake {OL : List Id} {k : Nat} {z : Id} {N : Int} (h : OL[k]? = some z) (hx : ∀ x ∈ OL.take k, x.2 ≤ N) : ∀ x ∈ OL.take (k + 1), x.2 ≤ max N z.2 := by
  intro x hx1
  rw [take_at h, List.mem_append] at hx1
  rcases hx1 with h1 | h1
  · have := hx x h1; omega
  · have : x = z := by simpa using h1
    subst this; omega

set_option maxRecDepth 100000 in
set_option maxHeartbeats 4000000 in
theorem near_few (A D : Option Addr) (n c m d : Nat) (ids0 : List Id) (ps : List (Id × Id)) (u : Nat) (w : World) (hR : IdsR w (fun _ => 0) 0 A ids0) (hn : ids0.length = n) (hD : ManyR putOf 4 w (fun _ => 0) 0 D ps) (hm : ps.length = m) (h1 : n ≤ 12) (h2 : m ≤ 12) (hu : u < 256) :
    Calls Try.prog 5 #[.slice A n c, .slice D m d, .int .u8 u] w fun e w' => e = .returned (.bool true) ∧ Below w.heap.size w w' := by
  have hn' := Lib.hid hn
  have hm' := Lib.hid hm
  have HR := Lib.hid hR
  have HD := Lib.hid hD
  clear hn hm hR hD
  have q1 : ¬ ((12 : Int) < (n : Int)) := by omega
  have q2 : ¬ ((12 : Int) < (m : Int)) := by omega
  go_enter Try.func5, Try.ntmps5
  go_wp2_with fail
  refine (awake24_c _).mono ?_
  rintro e w1 ⟨rfl, hB⟩
  have K1 := Lib.hid ((Clean.start w).next hB)
  clear hB
  go_wp2_with fail
  have r1 := HR.out.keep K1.out.below.size (Same.below K1.out.below)
  refine (snew_c A n c ids0 w1 (fun _ => 0) 0 1 r1 hn'.out (by simp [maxLen]; omega) (by decide) K1.out.fresh (by decide)).mono ?_
  rintro e w2 ⟨own2, q, rfl, tr2, a2⟩
  have K2 := Lib.hid (K1.out.tr tr2 (by decide))
  have D2 := Lib.hid ((HD.out.keep K1.out.below.size (Same.below K1.out.below)).keep tr2.size (tr2.toSame (by decide)))
  have A2 := Lib.hid a2
  clear K1 tr2 a2 r1
  go_wp2_with fail
  refine (put27_c w2 own2 1 q m d D (newL ids0) [] [] ps A2.out K2.out.fresh (by decide) D2.out hm'.out (by omega)).mono ?_
  rintro e w3 ⟨rfl, own3, tr3, a3⟩
  have K3 := Lib.hid (K2.out.tr tr3 (by decide))
  have HF := Lib.hid (few_puts ids0 ps (by rw [hn'.out]; exact h1) (by rw [hm'.out]; exact h2) m)
  obtain ⟨PS, hPS⟩ : ∃ PS, passes (newL ids0) ps m [] = PS := ⟨_, rfl⟩
  rw [hPS] at a3 HF
  have A3 := Lib.hid a3
  clear K2 tr3 a3 D2 A2 hPS
  generalize newL ids0 = FI at *
  go_wp2_with fail
  refine (allq_c w3 own3 1 2 q FI PS [] A3.out K3.out.fresh (by decide) (by decide)).mono ?_
  rintro e w4 ⟨v4, own4, rfl, tr4, row4⟩
  have HW := Lib.hid A3.out.wf
  obtain ⟨OL, hOL⟩ : ∃ OL, orderL FI PS = OL := ⟨_, rfl⟩
  have hOl : OL.length ≤ 1000 := by rw [← hOL, (order_facts HW.out).2.2]; exact HW.out.len
  have HP := Lib.hid (fun N hN hx k b hk => near_plain HW.out HF.out N hN hx k b hk)
  rw [hOL] at row4 HP
  obtain ⟨AW, cW, rfl, _⟩ := row4.form
  have S4 : Hid (NearS w q FI PS (.slice AW OL.length cW) OL own4 w4) := ⟨K3.out.tr tr4 (by decide), A3.out.other tr4 (by decide), row4⟩
  clear K3 A3 tr4 row4 hOL
  go_wp2_with fail
  go_loopw [9, 10] (fun v i wr => ∃ (k : Nat) (N : Int), k ≤ OL.length ∧ i = .int .i64 k ∧ v = .int .i64 N ∧ 0 ≤ N ∧ N ≤ 1000000 ∧ Hid (∀ x ∈ OL.take k, x.2 ≤ N) ∧ Hid (NearS w q FI PS (.slice AW OL.length cW) OL own4 wr)) (fun _ i _ => OL.length - (intOf i).toNat)
  case atStart => exact ⟨0, 0, Nat.zero_le _, rfl, rfl, by omega, by omega, by show ∀ x ∈ OL.take 0, _; simp, S4.out⟩
  case round =>
    clear S4
    obtain ⟨k, N, hk, rfl, rfl, hN0, hN1, hx, hS⟩ := hrel
    by_cases hlt : k < OL.length
    · have hk0 : (0 : Int) ≤ (k : Int) := by omega
      have hkn : (k : Int) < (OL.length : Int) := by omega
      obtain ⟨b1, o1, rfl, _, _, hc1⟩ := hS.out.rW.toIdsR.2 (fun e => by rw [e] at hlt; simp at hlt)
      obtain ⟨g1, g2⟩ := hc1 k hlt
      have e1 := Lib.hid (OLtake (List.getElem?_eq_getElem hlt) hx.out)
      clear hc1
      generalize OL[k] = z at *
      obtain ⟨z1, z2⟩ := z
      dsimp only at g1 g2 e1
      by_cases hz0 : z2 < 0
      · go_wp2_with fail
        go_ret
        exact ⟨rfl, hS.out.clean.below⟩
      · by_cases hz1 : 1000000 < z2
        · go_wp2_with fail
          go_ret
          exact ⟨rfl, hS.out.clean.below⟩
        · go_wp2_with fail
          go_roundw
          case rel => exact ⟨k + 1, max N z2, by omega, by go_num, by go_num, by omega, by omega, e1.out, hS.out⟩
          case measure => simp [intOf]; omega
    · have hkk : k = OL.length := by omega
      subst hkk
      have hkn : ¬ ((OL.length : Int) < (OL.length : Int)) := by omega
      rw [List.take_length] at hx
      obtain ⟨kk, hkk⟩ : ∃ kk : Nat, kk = u % (OL.length + 1) := ⟨_, rfl⟩
      have hkl : kk ≤ OL.length := by have := Nat.mod_lt u (show 0 < OL.length + 1 by omega); omega
      have ee : (u : Int) % ((OL.length : Int) + 1) = (kk : Int) := by rw [hkk]; simp
      clear hkk
      by_cases hk0 : kk = 0
      · have HB : Hid (((0, 0) :: OL)[kk]? = some (0, 0)) := by rw [hk0]; exact rfl
        have hk9 : ¬ ((0 : Int) < (kk : Int)) := by omega
        clear hk0
        have bl1 : Below wr.heap.size wr ((wr.alloc (Obj.cells #[Value.int IntKind.i64 1, Value.int IntKind.i64 (N + 1)] 24)).alloc (Obj.cells #[Value.int IntKind.i64 0, Value.int IntKind.i64 0] 24)) := ((Below.refl _ _).alloc (Nat.le_refl _) _).alloc (by simp) _
        have S5 := Lib.hid (hS.out.next bl1)
        have X5 := Lib.hid ((Box.new hS.out.clean.fresh 24 #[.int .i64 1, .int .i64 (N + 1)]).alloc (.cells #[.int .i64 0, .int .i64 0] 24))
        clear bl1
        go_wp2_with fail
        clear hS
        generalize ((wr.alloc (Obj.cells #[Value.int IntKind.i64 1, Value.int IntKind.i64 (N + 1)] 24)).alloc (Obj.cells #[Value.int IntKind.i64 0, Value.int IntKind.i64 0] 24)) = W5 at *
        refine (sinsert_c W5 own4 1 q FI PS [] 0 0 1 (N + 1) S5.out.sh S5.out.clean.fresh (by decide)).mono ?_
        rintro e w5 ⟨rfl, own5, tr5, a5⟩
        have hp := HP.out N hN0 hx.out kk (0, 0) HB.out
        unfold insPuts at a5
        rw [if_pos hp.1] at a5
        rw [hp.1]
        have HQ := Lib.hid hp.2
        have K5 := Lib.hid (S5.out.clean.tr tr5 (by decide))
        have X6 := Lib.hid (X5.out.tr tr5 (by decide))
        have R5 := Lib.hid (S5.out.rW.keep (tr5.toSame (by decide)))
        have A5 := Lib.hid a5
        clear hp tr5 a5 S5 X5
        go_wp2_with fail
        refine (allq_c w5 own5 1 3 q FI _ [] A5.out K5.out.fresh (by decide) (by decide)).mono ?_
        rintro e w6 ⟨v6, own6, rfl, tr6, row6⟩
        rw [HQ.out] at row6
        have K6 := Lib.hid (K5.out.tr tr6 (by decide))
        have X7 := Lib.hid (X6.out.tr tr6 (by decide))
        have R6 := Lib.hid (R5.out.keep (tr6.toSame (by decide)))
        have hlen := near_len OL kk hkl (1, N + 1)
        have HAt := Lib.hid (near_at OL kk hkl (1, N + 1))
        have HTk := Lib.hid (near_take OL kk hkl (1, N + 1))
        have HDr := Lib.hid (near_drop OL kk hkl (1, N + 1))
        generalize OL.take kk ++ (1, N + 1) :: OL.drop kk = NL at *
        rw [hlen] at row6
        obtain ⟨AN, cN, rfl, _⟩ := row6.form
        have N6 := Lib.hid row6
        have hk7 : kk < NL.length := by omega
        obtain ⟨b6, o6, rfl, _, _, hc6⟩ := row6.toIdsR.2 (fun e => by rw [e] at hk7; simp at hk7)
        obtain ⟨g1, g2⟩ := hc6 kk hk7
        have hz : NL[kk] = (1, N + 1) := Option.some.inj ((List.getElem?_eq_getElem hk7).symm.trans HAt.out)
        rw [hz] at g1 g2
        dsimp only at g1 g2
        have Hlen := Lib.hid hlen
        clear hc6 hz row6 tr6 hlen K5 X6 R5 A5 HQ hk7
        have c0 := X7.out.blk.cell 0
        have c1 := X7.out.blk.cell 1
        have hX := X7.out.blk.lt
        simp only [List.getElem?_toArray, List.getElem?_cons_zero, List.getElem?_cons_succ] at c0 c1
        have k1 : (0 : Int) ≤ (kk : Int) := by omega
        have k2 : (kk : Int) < (OL.length : Int) + 1 := by omega
        have qe : ideq 1 (N + 1) 1 (N + 1) = true := by simp [ideq]
        go_wp2_with fail
        go_quiet (fail)
        go_wp2_with fail
        have K7 := Lib.hid (K6.out.drewN nq)
        have R7 := Lib.hid (R6.out.keep (Same.drewN nq))
        have N7 := Lib.hid (N6.out.keep (Same.drewN nq))
        clear K6 R6 N6 c0 c1 hX g1 g2 X7
        generalize w6.drewN nq = W7 at *
        have hcN : OL.length + 1 ≤ cN := by
          rcases N7.out.shape with ⟨h, _⟩ | ⟨_, _, h⟩
          · cases h
          · exact h
        have hnk : (kk : Int) ≤ (cN : Int) := by omega
        rcases R7.out.shape with ⟨rfl, hO0, rfl⟩ | ⟨gW, rfl, hcW⟩
        · have hO : OL = [] := List.eq_nil_of_length_eq_zero hO0
          subst hO
          have hkz : kk = 0 := by simpa using hkl
          subst hkz
          simp only [List.length_nil, Nat.zero_add, Int.natCast_zero]
          have hnk4 : (0 : Int) ≤ (cN : Int) := by omega
          have hcN1 : (1 : Int) ≤ (cN : Int) := by omega
          have INIL : Hid (∀ (W : World) (ow : Tags) (t : Nat) (A : Option Addr), IdsR W ow t A []) := fun _ _ _ _ h => absurd rfl h
          refine region_free [] [0, 1, 2, 3, 4, 5] 12 (by kernel_rfl) (by kernel_rfl) (by kernel_rfl) (by kernel_rfl) (by kernel_rfl) (fun _ _ _ _ _ h => h) trivial ?_
          intro hne hu
          simp only [AllCells] at hu
          simp only [pick, List.take_succ_cons, List.take_zero, List.drop_succ_cons, List.drop_zero, List.cons_append, List.nil_append]
          repeat (go_big_quiet_step (fail))
          refine wpQuiet_nil ?_
          clear hne hu
          refine anyN_oneL 6 (by kernel_rfl) ?_
          simp only [List.take_succ_cons, List.take_zero, List.drop_succ_cons, List.drop_zero]
          go_wp2_with fail
          refine (same28_c _ _ 0 0 _ _ [] [] W7.drew own6 own6 3 2 (INIL.out _ _ _ _) (INIL.out _ _ _ _) rfl rfl (by omega)).mono ?_
          rintro e w8 ⟨rfl, hb8⟩
          rw [decide_eq_true rfl]
          have K8 := Lib.hid ((K7.out.drewN 1).next hb8)
          clear hb8 K7 R7 N7
          go_wp2_with fail
          refine And.intro (fun _ => trivial) ?_
          refine anyN_more [7, 8, 9, 10, 11, 12, 13, 14] 3 (by kernel_rfl) (by kernel_rfl) (by kernel_rfl) (by kernel_rfl) (fun _ _ _ _ _ h => h) trivial ?_
          intro hne hu
          simp only [AllCells] at hu
          simp only [pick, List.take_succ_cons, List.take_zero, List.drop_succ_cons, List.drop_zero, List.cons_append, List.nil_append]
          repeat (go_big_quiet_step (fail))
          refine wpQuiet_nil ?_
          clear hne hu
          refine anyN_oneL 15 (by kernel_rfl) ?_
          simp only [List.take_succ_cons, List.take_zero, List.drop_succ_cons, List.drop_zero]
          go_wp2_with fail
          all_goals
            refine (same28_c _ _ 0 0 _ _ [] [] w8 own6 own6 3 2 (INIL.out _ _ _ _) (INIL.out _ _ _ _) rfl rfl (by omega)).mono ?_
            rintro e w9 ⟨rfl, hb9⟩
            rw [decide_eq_true rfl]
            have K9 := Lib.hid (K8.out.next hb9)
            clear hb9
            go_wp2_with fail
            refine And.intro (fun _ => trivial) ?_
            refine anyN_more [16, 17] 0 (by kernel_rfl) (by kernel_rfl) (by kernel_rfl) (by kernel_rfl) (fun _ _ _ _ _ h => h) trivial ?_
            intro hne hu
            simp only [AllCells] at hu
            simp only [pick, List.take_succ_cons, List.take_zero, List.drop_succ_cons, List.drop_zero, List.cons_append, List.nil_append]
            repeat (go_big_quiet_step (fail))
            refine wpQuiet_nil ?_
            clear hne hu
            refine ⟨by kernel_rfl, ?_⟩
            go_wp2_with fail
            go_ret
            exact ⟨rfl, K9.out.below⟩
        · have hwk : (kk : Int) ≤ (cW : Int) := by omega
          refine region_free [] [0, 1, 2, 3, 4, 5] 12 (by kernel_rfl) (by kernel_rfl) (by kernel_rfl) (by kernel_rfl) (by kernel_rfl) (fun _ _ _ _ _ h => h) trivial ?_
          intro hne hu
          simp only [AllCells] at hu
          simp only [pick, List.take_succ_cons, List.take_zero, List.drop_succ_cons, List.drop_zero, List.cons_append, List.nil_append]
          repeat (go_big_quiet_step (fail))
          refine wpQuiet_nil ?_
          clear hne hu
          refine anyN_oneL 6 (by kernel_rfl) ?_
          simp only [List.take_succ_cons, List.take_zero, List.drop_succ_cons, List.drop_zero]
          go_wp2_with fail
          have I1 := (N7.out.keep (Same.drew)).toIdsR.2.part (A' := some ⟨b6, o6, none⟩) 0 kk (fun _ b off e => by cases e; simp)
          have I2 := (R7.out.keep (Same.drew)).toIdsR.2.part (A' := some ⟨gW, 0, none⟩) 0 kk (fun _ b off e => by cases e; simp)
          refine (same28_c _ _ kk kk cN cW _ _ W7.drew own6 own6 3 2 I1 I2 (by have := Hlen.out; simp; omega) (by simp; omega) (by omega)).mono ?_
          rintro e w8 ⟨rfl, hb8⟩
          rw [HTk.out, decide_eq_true rfl]
          have K8 := Lib.hid ((K7.out.drewN 1).next hb8)
          have R8 := Lib.hid ((R7.out.keep (Same.drew)).keep (Same.below hb8))
          have N8 := Lib.hid ((N7.out.keep (Same.drew)).keep (Same.below hb8))
          clear I1 I2 hb8 K7 R7 N7
          go_wp2_with fail
          refine And.intro (fun _ => trivial) ?_
          have hnk2 : (kk : Int) + 1 ≤ (OL.length : Int) + 1 := by omega
          have hnk3 : (0 : Int) ≤ (kk : Int) + 1 := by omega
          have hwk2 : (kk : Int) ≤ (OL.length : Int) := by omega
          refine anyN_more [7, 8, 9, 10, 11, 12, 13, 14] 3 (by kernel_rfl) (by kernel_rfl) (by kernel_rfl) (by kernel_rfl) (fun _ _ _ _ _ h => h) trivial ?_
          intro hne hu
          simp only [AllCells] at hu
          simp only [pick, List.take_succ_cons, List.take_zero, List.drop_succ_cons, List.drop_zero, List.cons_append, List.nil_append]
          repeat (go_big_quiet_step (fail))
          refine wpQuiet_nil ?_
          clear hne hu
          refine anyN_oneL 15 (by kernel_rfl) ?_
          simp only [List.take_succ_cons, List.take_zero, List.drop_succ_cons, List.drop_zero]
          go_wp2_with fail
          all_goals
            refine (same28_c _ _ (OL.length - kk) (OL.length - kk) _ _ ((NL.drop (kk + 1)).take (OL.length - kk)) ((OL.drop kk).take (OL.length - kk)) w8 own6 own6 3 2 (N8.out.toIdsR.2.part (kk + 1) (OL.length - kk) (fun hne b off e => by cases e; first | rfl | (exfalso; apply hne; apply List.eq_nil_of_length_eq_zero; simp; omega))) (R8.out.toIdsR.2.part kk (OL.length - kk) (fun hne b off e => by cases e; first | rfl | (simp; done) | (exfalso; apply hne; apply List.eq_nil_of_length_eq_zero; simp; omega))) (by have := Hlen.out; simp; omega) (by simp) (by omega)).mono ?_
            rintro e w9 ⟨rfl, hb9⟩
            rw [HDr.out, decide_eq_true rfl]
            have K9 := Lib.hid (K8.out.next hb9)
            clear hb9
            go_wp2_with fail
            refine And.intro (fun _ => trivial) ?_
            refine anyN_more [16, 17] 0 (by kernel_rfl) (by kernel_rfl) (by kernel_rfl) (by kernel_rfl) (fun _ _ _ _ _ h => h) trivial ?_
            intro hne hu
            simp only [AllCells] at hu
            simp only [pick, List.take_succ_cons, List.take_zero, List.drop_succ_cons, List.drop_zero, List.cons_append, List.nil_append]
            repeat (go_big_quiet_step (fail))
            refine wpQuiet_nil ?_
            clear hne hu
            refine ⟨by kernel_rfl, ?_⟩
            go_wp2_with fail
            go_ret
            exact ⟨rfl, K9.out.below⟩
      · have hk9 : (0 : Int) < (kk : Int) := by omega
        have hkm : kk - 1 < OL.length := by omega
        have hi0 : (0 : Int) ≤ (kk : Int) - 1 := by omega
        have hi1 : (kk : Int) - 1 < (OL.length : Int) := by omega
        have hi2 : ((kk : Int) - 1).toNat = kk - 1 := by omega
        have HB : Hid (((0, 0) :: OL)[kk]? = some OL[kk - 1]) := by
          obtain ⟨j, rfl⟩ : ∃ j, kk = j + 1 := ⟨kk - 1, by omega⟩
          show ((0, 0) :: OL)[j + 1]? = _
          rw [List.getElem?_cons_succ]; exact List.getElem?_eq_getElem hkm
        obtain ⟨bW, oW, rfl, _, hbW, hcW⟩ := hS.out.rW.toIdsR.2 (fun e => by rw [e] at hkm; simp at hkm)
        obtain ⟨r1, r2⟩ := hcW (kk - 1) hkm
        clear hcW hk0
        generalize OL[kk - 1] = bb at *
        obtain ⟨b1, b2⟩ := bb
        dsimp only at r1 r2
        have bl1 : Below wr.heap.size wr ((wr.alloc (Obj.cells #[Value.int IntKind.i64 1, Value.int IntKind.i64 (N + 1)] 24)).alloc (Obj.cells #[Value.int IntKind.i64 b1, Value.int IntKind.i64 b2] 24)) := ((Below.refl _ _).alloc (Nat.le_refl _) _).alloc (by simp) _
        have S5 := Lib.hid (hS.out.next bl1)
        have X5 := Lib.hid ((Box.new hS.out.clean.fresh 24 #[.int .i64 1, .int .i64 (N + 1)]).alloc (.cells #[.int .i64 b1, .int .i64 b2] 24))
        clear bl1
        go_wp2_with fail
        clear hS r1 r2
        generalize ((wr.alloc (Obj.cells #[Value.int IntKind.i64 1, Value.int IntKind.i64 (N + 1)] 24)).alloc (Obj.cells #[Value.int IntKind.i64 b1, Value.int IntKind.i64 b2] 24)) = W5 at *
        refine (sinsert_c W5 own4 1 q FI PS [] b1 b2 1 (N + 1) S5.out.sh S5.out.clean.fresh (by decide)).mono ?_
        rintro e w5 ⟨rfl, own5, tr5, a5⟩
        have hp := HP.out N hN0 hx.out kk (b1, b2) HB.out
        unfold insPuts at a5
        rw [if_pos hp.1] at a5
        rw [hp.1]
        have HQ := Lib.hid hp.2
        have K5 := Lib.hid (S5.out.clean.tr tr5 (by decide))
        have X6 := Lib.hid (X5.out.tr tr5 (by decide))
        have R5 := Lib.hid (S5.out.rW.keep (tr5.toSame (by decide)))
        have A5 := Lib.hid a5
        clear hp tr5 a5 S5 X5
        go_wp2_with fail
        refine (allq_c w5 own5 1 3 q FI _ [] A5.out K5.out.fresh (by decide) (by decide)).mono ?_
        rintro e w6 ⟨v6, own6, rfl, tr6, row6⟩
        rw [HQ.out] at row6
        have K6 := Lib.hid (K5.out.tr tr6 (by decide))
        have X7 := Lib.hid (X6.out.tr tr6 (by decide))
        have R6 := Lib.hid (R5.out.keep (tr6.toSame (by decide)))
        have hlen := near_len OL kk hkl (1, N + 1)
        have HAt := Lib.hid (near_at OL kk hkl (1, N + 1))
        have HTk := Lib.hid (near_take OL kk hkl (1, N + 1))
        have HDr := Lib.hid (near_drop OL kk hkl (1, N + 1))
        generalize OL.take kk ++ (1, N + 1) :: OL.drop kk = NL at *
        rw [hlen] at row6
        obtain ⟨AN, cN, rfl, _⟩ := row6.form
        have N6 := Lib.hid row6
        have hk7 : kk < NL.length := by omega
        obtain ⟨b6, o6, rfl, _, _, hc6⟩ := row6.toIdsR.2 (fun e => by rw [e] at hk7; simp at hk7)
        obtain ⟨g1, g2⟩ := hc6 kk hk7
        have hz : NL[kk] = (1, N + 1) := Option.some.inj ((List.getElem?_eq_getElem hk7).symm.trans HAt.out)
        rw [hz] at g1 g2
        dsimp only at g1 g2
        have Hlen := Lib.hid hlen
        clear hc6 hz row6 tr6 hlen K5 X6 R5 A5 HQ hk7
        have c0 := X7.out.blk.cell 0
        have c1 := X7.out.blk.cell 1
        have hX := X7.out.blk.lt
        simp only [List.getElem?_toArray, List.getElem?_cons_zero, List.getElem?_cons_succ] at c0 c1
        have k1 : (0 : Int) ≤ (kk : Int) := by omega
        have k2 : (kk : Int) < (OL.length : Int) + 1 := by omega
        have qe : ideq 1 (N + 1) 1 (N + 1) = true := by simp [ideq]
        go_wp2_with fail
        go_quiet (fail)
        go_wp2_with fail
        have K7 := Lib.hid (K6.out.drewN nq)
        have R7 := Lib.hid (R6.out.keep (Same.drewN nq))
        have N7 := Lib.hid (N6.out.keep (Same.drewN nq))
        clear K6 R6 N6 c0 c1 hX g1 g2 X7
        generalize w6.drewN nq = W7 at *
        have hcN : OL.length + 1 ≤ cN := by
          rcases N7.out.shape with ⟨h, _⟩ | ⟨_, _, h⟩
          · cases h
          · exact h
        have hnk : (kk : Int) ≤ (cN : Int) := by omega
        obtain ⟨gW, hgW, hcW⟩ := R7.out.shape.resolve_left (by rintro ⟨h, _⟩; cases h)
        cases hgW
        have hwk : (kk : Int) ≤ (cW : Int) := by omega
        refine region_free [] [0, 1, 2, 3, 4, 5] 12 (by kernel_rfl) (by kernel_rfl) (by kernel_rfl) (by kernel_rfl) (by kernel_rfl) (fun _ _ _ _ _ h => h) trivial ?_
        intro hne hu
        simp only [AllCells] at hu
        simp only [pick, List.take_succ_cons, List.take_zero, List.drop_succ_cons, List.drop_zero, List.cons_append, List.nil_append]
        repeat (go_big_quiet_step (fail))
        refine wpQuiet_nil ?_
        clear hne hu
        refine anyN_oneL 6 (by kernel_rfl) ?_
        simp only [List.take_succ_cons, List.take_zero, List.drop_succ_cons, List.drop_zero]
        go_wp2_with fail
        have I1 := (N7.out.keep (Same.drew)).toIdsR.2.part (A' := some ⟨b6, o6, none⟩) 0 kk (fun _ b off e => by cases e; simp)
        have I2 := (R7.out.keep (Same.drew)).toIdsR.2.part (A' := some ⟨bW, 0, none⟩) 0 kk (fun _ b off e => by cases e; simp)
        refine (same28_c _ _ kk kk cN cW _ _ W7.drew own6 own6 3 2 I1 I2 (by have := Hlen.out; simp; omega) (by simp; omega) (by omega)).mono ?_
        rintro e w8 ⟨rfl, hb8⟩
        rw [HTk.out, decide_eq_true rfl]
        have K8 := Lib.hid ((K7.out.drewN 1).next hb8)
        have R8 := Lib.hid ((R7.out.keep (Same.drew)).keep (Same.below hb8))
        have N8 := Lib.hid ((N7.out.keep (Same.drew)).keep (Same.below hb8))
        clear I1 I2 hb8 K7 R7 N7
        go_wp2_with fail
        refine And.intro (fun _ => trivial) ?_
        have hnk2 : (kk : Int) + 1 ≤ (OL.length : Int) + 1 := by omega
        have hnk3 : (0 : Int) ≤ (kk : Int) + 1 := by omega
        have hwk2 : (kk : Int) ≤ (OL.length : Int) := by omega
        refine anyN_more [7, 8, 9, 10, 11, 12, 13, 14] 3 (by kernel_rfl) (by kernel_rfl) (by kernel_rfl) (by kernel_rfl) (fun _ _ _ _ _ h => h) trivial ?_
        intro hne hu
        simp only [AllCells] at hu
        simp only [pick, List.take_succ_cons, List.take_zero, List.drop_succ_cons, List.drop_zero, List.cons_append, List.nil_append]
        repeat (go_big_quiet_step (fail))
        refine wpQuiet_nil ?_
        clear hne hu
        refine anyN_oneL 15 (by kernel_rfl) ?_
        simp only [List.take_succ_cons, List.take_zero, List.drop_succ_cons, List.drop_zero]
        go_wp2_with fail
        all_goals
          refine (same28_c _ _ (OL.length - kk) (OL.length - kk) _ _ ((NL.drop (kk + 1)).take (OL.length - kk)) ((OL.drop kk).take (OL.length - kk)) w8 own6 own6 3 2 (N8.out.toIdsR.2.part (kk + 1) (OL.length - kk) (fun hne b off e => by cases e; first | rfl | (exfalso; apply hne; apply List.eq_nil_of_length_eq_zero; simp; omega))) (R8.out.toIdsR.2.part kk (OL.length - kk) (fun hne b off e => by cases e; first | rfl | (simp; done) | (exfalso; apply hne; apply List.eq_nil_of_length_eq_zero; simp; omega))) (by have := Hlen.out; simp; omega) (by simp) (by omega)).mono ?_
          rintro e w9 ⟨rfl, hb9⟩
          rw [HDr.out, decide_eq_true rfl]
          have K9 := Lib.hid (K8.out.next hb9)
          clear hb9
          go_wp2_with fail
          refine And.intro (fun _ => trivial) ?_
          refine anyN_more [16, 17] 0 (by kernel_rfl) (by kernel_rfl) (by kernel_rfl) (by kernel_rfl) (fun _ _ _ _ _ h => h) trivial ?_
          intro hne hu
          simp only [AllCells] at hu
          simp only [pick, List.take_succ_cons, List.take_zero, List.drop_succ_cons, List.drop_zero, List.cons_append, List.nil_append]
          repeat (go_big_quiet_step (fail))
          refine wpQuiet_nil ?_
          clear hne hu
          refine ⟨by kernel_rfl, ?_⟩
          go_wp2_with fail
          go_ret
          exact ⟨rfl, K9.out.below⟩

set_option maxRecDepth 100000 in
set_option maxHeartbeats 4000000 in
theorem near_many (A D : Option Addr) (n c m d u : Nat) (w : World) (h : 12 < n ∨ 12 < m) :
    Calls Try.prog 5 #[.slice A n c, .slice D m d, .int .u8 u] w fun e w' => e = .returned (.bool true) ∧ Below w.heap.size w w' := by
  go_enter Try.func5, Try.ntmps5
  go_wp2_with fail
  refine (awake24_c _).mono ?_
  rintro e w1 ⟨rfl, hB⟩
  have K1 := Lib.hid ((Clean.start w).next hB)
  clear hB
  by_cases h1 : 12 < n
  · have h2 : (12 : Int) < (n : Int) := by omega
    clear h h1
    go_wp2_with fail
    refine (awake24_c _).mono ?_
    rintro e w2 ⟨rfl, hB⟩
    have K2 := Lib.hid (K1.out.next hB)
    clear K1 hB
    go_wp2_with fail
    go_ret
    exact ⟨rfl, K2.out.below⟩
  · have h2 : ¬ (12 : Int) < (n : Int) := by omega
    have h3 : (12 : Int) < (m : Int) := by omega
    clear h h1
    go_wp2_with fail
    refine (awake24_c _).mono ?_
    rintro e w2 ⟨rfl, hB⟩
    have K2 := Lib.hid (K1.out.next hB)
    clear K1 hB
    go_wp2_with fail
    go_ret
    exact ⟨rfl, K2.out.below⟩
theorem near_any (A D : Option Addr) (n c m d : Nat) (ids0 : List Id) (ps : List (Id × Id)) (u : Nat) (w : World) (hR : IdsR w (fun _ => 0) 0 A ids0) (hn : ids0.length = n) (hD : ManyR putOf 4 w (fun _ => 0) 0 D ps) (hm : ps.length = m) (hu : u < 256) :
    Calls Try.prog 5 #[.slice A n c, .slice D m d, .int .u8 u] w fun e w' => e = .returned (.bool true) ∧ Below w.heap.size w w' := by
  by_cases h1 : n ≤ 12
  · by_cases h2 : m ≤ 12
    · exact near_few A D n c m d ids0 ps u w hR hn hD hm h1 h2 hu
    · exact near_many A D n c m d u w (.inr (by omega))
  · exact near_many A D n c m d u w (.inl (by omega))
end Go.Proofs.Ytgmlhpkhecbkoaa
