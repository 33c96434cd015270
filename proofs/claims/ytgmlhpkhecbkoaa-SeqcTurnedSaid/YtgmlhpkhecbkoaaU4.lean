/-
  counterpanelaw36.SeqcTurned: its walk. Conditions: the arguments can be read.
-/
import Derived.Test.YtgmlhpkhecbkoaaU3
namespace Go.Proofs.Ytgmlhpkhecbkoaa
open Go.RowKit

theorem Try.info42 : (Try.prog.info? 42).map (fun i => (i.zero, i.size, i.bytes)) = some (some (.agg #[.int .i64 0, .int .i64 0, .int .i64 0, .int .i64 0]), 4, 32) := by kernel_rfl
/-- What SeqcTurned holds in its loop. -/
structure TurnS (w : World) (qa qb qc : Nat) (FI : List Id) (ps : List (Id × Id)) (D : Option Addr) (vT vB : Value) (LT LB : List (Id × Id)) (ow : Tags) (wr : World) : Prop where
  clean : Clean w ow wr
  a : ShAt wr ow 1 qa FI [] []
  b : ShAt wr ow 2 qb FI [] []
  c : ShAt wr ow 3 qc FI [] []
  d : ManyR putOf 4 wr ow 0 D ps
  rT : Row wr ow 4 42 4 vT LT.length (cutCells LT)
  rB : Row wr ow 5 42 4 vB LB.length (cutCells LB)
section
variable {w wr wr' : World} {qa qb qc : Nat} {FI : List Id} {ps LT LB L' : List (Id × Id)} {D : Option Addr} {vT vB v' : Value} {ow ow' : Tags}
theorem TurnS.next (h : TurnS w qa qb qc FI ps D vT vB LT LB ow wr) (k : Below wr.heap.size wr wr') : TurnS w qa qb qc FI ps D vT vB LT LB ow wr' :=
  ⟨h.clean.next k, h.a.next k, h.b.next k, h.c.next k, h.d.keep k.size (Same.below k), h.rT.keep (Same.below k), h.rB.keep (Same.below k)⟩
theorem TurnS.putT (h : TurnS w qa qb qc FI ps D vT vB LT LB ow wr) (k : Tr ow 4 wr ow' wr') (r : Row wr' ow' 4 42 4 v' L'.length (cutCells L')) : TurnS w qa qb qc FI ps D v' vB L' LB ow' wr' :=
  ⟨h.clean.tr k (by decide), h.a.other k (by decide), h.b.other k (by decide), h.c.other k (by decide), h.d.keep k.size (k.toSame (by decide)), r, h.rB.keep (k.toSame (by decide))⟩
theorem TurnS.putB (h : TurnS w qa qb qc FI ps D vT vB LT LB ow wr) (k : Tr ow 5 wr ow' wr') (r : Row wr' ow' 5 42 4 v' L'.length (cutCells L')) : TurnS w qa qb qc FI ps D vT v' LT L' ow' wr' :=
  ⟨h.clean.tr k (by decide), h.a.other k (by decide), h.b.other k (by decide), h.c.other k (by decide), h.d.keep k.size (k.toSame (by decide)), h.rT.keep (k.toSame (by decide)), r⟩
end

set_option maxRecDepth 100000 in
set_option maxHeartbeats 4000000 in
theorem turned_few (A D : Option Addr) (n c m d : Nat) (ids0 : List Id) (ps : List (Id × Id)) (u : Nat) (w : World) (hR : IdsR w (fun _ => 0) 0 A ids0) (hn : ids0.length = n) (hD : ManyR putOf 4 w (fun _ => 0) 0 D ps) (hm : ps.length = m) (h1 : n ≤ 12) (h2 : m ≤ 12) (hu : u < 256) :
    Calls Try.prog 4 #[.slice A n c, .slice D m d, .int .u8 u] w fun e w' => e = .returned (.bool true) ∧ Below w.heap.size w w' := by
  have hn' := Lib.hid hn
  have hm' := Lib.hid hm
  have HR := Lib.hid hR
  have HD := Lib.hid hD
  clear hn hm hR hD
  have q1 : ¬ ((12 : Int) < (n : Int)) := by omega
  have q2 : ¬ ((12 : Int) < (m : Int)) := by omega
  go_enter Try.func4, Try.ntmps4
  go_wp2_with fail
  refine (awake24_c _).mono ?_
  rintro e w1 ⟨rfl, hB⟩
  have K1 := Lib.hid ((Clean.start w).next hB)
  have r1 := HR.out.keep K1.out.below.size (Same.below K1.out.below)
  have d1 := HD.out.keep K1.out.below.size (Same.below K1.out.below)
  have HR1 := Lib.hid r1
  have HD1 := Lib.hid d1
  clear hB r1 d1
  go_wp2_with fail
  refine (unlike25_c w1 (fun _ => 0) (fun _ => 0) 0 0 n c m d A D ids0 ps HR1.out hn'.out HD1.out hm'.out (by omega) (by omega)).mono ?_
  rintro e w2 ⟨b, rfl, hb, hB2⟩
  have K2 := Lib.hid (K1.out.next hB2)
  have HR2 := Lib.hid (HR1.out.belowTo hB2)
  have HD2 := Lib.hid (HD1.out.keep hB2.size (Same.below hB2))
  clear hB2 K1 HR1 HD1 HR HD
  cases b
  · clear hb
    go_wp2_with fail
    refine (awake24_c _).mono ?_
    rintro e w3 ⟨rfl, hB⟩
    have K3 := Lib.hid (K2.out.next hB)
    clear hB
    go_wp2_with fail
    go_ret
    exact ⟨rfl, K3.out.below⟩
  · have HU := Lib.hid (hb rfl)
    clear hb
    go_wp2_with fail
    refine (snew_c A n c ids0 w2 (fun _ => 0) 0 1 HR2.out hn'.out (by simp [maxLen]; omega) (by decide) K2.out.fresh (by decide)).mono ?_
    rintro e w3 ⟨own3, qa, rfl, tr3, a3⟩
    have K3 := Lib.hid (K2.out.tr tr3 (by decide))
    have D3 := Lib.hid (HD2.out.keep tr3.size (tr3.toSame (by decide)))
    have HR3 := Lib.hid (HR2.out.keep tr3.size (tr3.toSame (by decide)))
    have A3 := Lib.hid a3
    clear K2 HR2 HD2 tr3 a3
    go_wp2_with fail
    refine (snew_c A n c ids0 w3 own3 0 2 HR3.out hn'.out (by simp [maxLen]; omega) (by decide) K3.out.fresh (by decide)).mono ?_
    rintro e w4 ⟨own4, qb, rfl, tr4, a4⟩
    have K4 := Lib.hid (K3.out.tr tr4 (by decide))
    have D4 := Lib.hid (D3.out.keep tr4.size (tr4.toSame (by decide)))
    have HR4 := Lib.hid (HR3.out.keep tr4.size (tr4.toSame (by decide)))
    have A4 := Lib.hid (A3.out.other tr4 (by decide))
    have B4 := Lib.hid a4
    clear K3 HR3 D3 A3 tr4 a4
    go_wp2_with fail
    refine (snew_c A n c ids0 w4 own4 0 3 HR4.out hn'.out (by simp [maxLen]; omega) (by decide) K4.out.fresh (by decide)).mono ?_
    rintro e w5 ⟨own5, qc, rfl, tr5, a5⟩
    have S5 : Hid (TurnS w qa qb qc (newL ids0) ps D (.slice none 0 0) (.slice none 0 0) (turnedTo ps u 0) (backTo ps 0) own5 w5) :=
      ⟨K4.out.tr tr5 (by decide), A4.out.other tr5 (by decide), B4.out.other tr5 (by decide), a5, D4.out.keep tr5.size (tr5.toSame (by decide)), by simpa [turnedTo, cutCells] using Row.nil _ _ 4 42 4, by simpa [backTo, cutCells] using Row.nil _ _ 5 42 4⟩
    clear K4 HR4 D4 A4 B4 tr5 a5
    have HO := Lib.hid (turned_order HU.out (by rw [hn'.out]; exact h1) (by rw [hm'.out]; exact h2) u)
    rw [hm'.out] at HO
    have hpl := hm'.out
    generalize newL ids0 = FI at *
    go_wp2_with fail
    go_loopw [10, 11, 12] (fun r b i wr => ∃ (k : Nat) (ow : Tags), k ≤ m ∧ i = .int .i64 k ∧ Hid (TurnS w qa qb qc FI ps D r b (turnedTo ps u k) (backTo ps k) ow wr)) (fun _ _ i _ => m - (intOf i).toNat)
    case atStart => exact ⟨0, own5, Nat.zero_le _, rfl, S5.out⟩
    case round =>
      clear S5
      obtain ⟨k, ow, hk, rfl, hS⟩ := hrel
      obtain ⟨AT, cT, hrv, _⟩ := hS.out.rT.form
      subst hrv
      obtain ⟨AB, cB, hrv, _⟩ := hS.out.rB.form
      subst hrv
      rw [length_turnedTo, length_backTo]
      by_cases hlt : k < m
      · have hk0 : (0 : Int) ≤ (k : Int) := by omega
        have hkn : (k : Int) < (m : Int) := by omega
        obtain ⟨b1, o1, rfl, _, _, hc1⟩ := hS.out.d.puts (fun e => by rw [e] at hpl; simp at hpl; omega)
        have hx : (k + u) % m < m := Nat.mod_lt _ (by omega)
        have hy : m - 1 - k < m := by omega
        obtain ⟨g1, g2, g3, g4⟩ := hc1 ((k + u) % m) (by rw [hpl]; exact hx)
        obtain ⟨f1, f2, f3, f4⟩ := hc1 (m - 1 - k) (by rw [hpl]; exact hy)
        clear hc1
        have ex : (((k : Int) + (u : Int)) % (m : Int)).toNat = (k + u) % m := by rw [← Int.natCast_add, ← Int.natCast_emod, Int.toNat_natCast]
        have ey : ((m : Int) - 1 - (k : Int)).toNat = m - 1 - k := by omega
        have ix0 : 0 ≤ ((k : Int) + (u : Int)) % (m : Int) := Int.emod_nonneg _ (by omega)
        have ix1 : ((k : Int) + (u : Int)) % (m : Int) < (m : Int) := Int.emod_lt_of_pos _ (by omega)
        have iy0 : 0 ≤ (m : Int) - 1 - (k : Int) := by omega
        have iy1 : (m : Int) - 1 - (k : Int) < (m : Int) := by omega
        have ET := Lib.hid (turnedTo_succ ps u k)
        have EB := Lib.hid (backTo_succ ps k)
        rw [hpl] at ET EB
        rw [List.getD_eq_getElem?_getD, List.getElem?_eq_getElem (by rw [hpl]; exact hx), Option.getD_some] at ET
        rw [List.getD_eq_getElem?_getD, List.getElem?_eq_getElem (by rw [hpl]; exact hy), Option.getD_some] at EB
        generalize hzx : ps[(k + u) % m] = zx at *
        generalize hzy : ps[m - 1 - k] = zy at *
        obtain ⟨⟨x1, x2⟩, ⟨x3, x4⟩⟩ := zx
        obtain ⟨⟨y1, y2⟩, ⟨y3, y4⟩⟩ := zy
        have HZY := Lib.hid hzy
        clear hzx hzy f1 f2 f3 f4
        dsimp only at g1 g2 g3 g4
        clear hx ex
        obtain ⟨i0, hi, hz0, hz1, hz2⟩ := info_parts Try.info42
        have S1 := Lib.hid (hS.out.next ((Below.refl _ wr).alloc (Nat.le_refl _) (.cells #[.int .i64 x1, .int .i64 x2, .int .i64 x3, .int .i64 x4] 42)))
        rw [length_turnedTo, length_backTo] at S1
        clear hS
        have R1 := Lib.hid S1.out.rT
        rw [length_turnedTo] at R1
        go_wp2_with (at_builtin; first | (refine wpList_append_own_at _ rfl _ _ _ rfl 0 42 i0 _ 4 32 Try.underlying37 hi hz0 hz1 hz2 rfl (by omega) _ _ _ rfl R1.out.1 ⟨wr.heap.size, 0, none⟩ 1 1 [.int .i64 x1, .int .i64 x2, .int .i64 x3, .int .i64 x4] rfl rfl (news_new wr wr.heap.size rfl #[.int .i64 x1, .int .i64 x2, .int .i64 x3, .int .i64 x4] 42) (by simp [Value.oneCell']) (by simp only [maxLen]; omega) (by omega) (Nat.zero_le _) ?_; intro v' w2' hown2 hgrow2 _ hat2; obtain ⟨gN, cN', rfl⟩ := ownsRow_slice hown2 (by omega); obtain ⟨ow2, tr2, _, r2⟩ := R1.out.app2 (Tr.refl ow 4 _) hgrow2 hown2 (lies_two hat2 (hown2.lt gN rfl).2); have S3 := Lib.hid (S1.out.putT (L' := turnedTo ps u (k + 1)) tr2 (by rw [ET.out, cutCells_append, List.length_append, length_turnedTo]; exact r2)); clear hown2 hgrow2 hat2 tr2 r2 S1 R1 g1 g2 g3 g4; obtain ⟨b2, o2, hAA, _, _, hc2⟩ := S3.out.d.puts (fun e => by rw [e] at hpl; simp at hpl; omega); cases hAA; obtain ⟨f1, f2, f3, f4⟩ := hc2 (m - 1 - k) (by rw [hpl]; exact hy); rw [HZY.out] at f1 f2 f3 f4; dsimp only at f1 f2 f3 f4; clear hc2; have S4 := Lib.hid (S3.out.next ((Below.refl _ _).alloc (Nat.le_refl _) (.cells #[.int .i64 y1, .int .i64 y2, .int .i64 y3, .int .i64 y4] 42))); have R3 := Lib.hid S4.out.rB; rw [length_backTo] at R3; clear S3) | (refine wpList_append_own_at _ rfl _ _ _ rfl 0 42 i0 _ 4 32 Try.underlying37 hi hz0 hz1 hz2 rfl (by omega) _ _ _ rfl R3.out.1 ⟨w2'.heap.size, 0, none⟩ 1 1 [.int .i64 y1, .int .i64 y2, .int .i64 y3, .int .i64 y4] rfl rfl (news_new w2' w2'.heap.size rfl #[.int .i64 y1, .int .i64 y2, .int .i64 y3, .int .i64 y4] 42) (by simp [Value.oneCell']) (by simp only [maxLen]; omega) (by omega) (Nat.zero_le _) ?_; intro v' w3' hown2 hgrow2 _ hat2; obtain ⟨gM, cM', rfl⟩ := ownsRow_slice hown2 (by omega); obtain ⟨ow3, tr2, _, r2⟩ := R3.out.app2 (Tr.refl ow2 5 _) hgrow2 hown2 (lies_two hat2 (hown2.lt gM rfl).2); have S5 := Lib.hid (S4.out.putB (L' := backTo ps (k + 1)) tr2 (by rw [EB.out, cutCells_append, List.length_append, length_backTo]; exact r2)); clear hown2 hgrow2 hat2 tr2 r2 S4 R3 f1 f2 f3 f4))
        go_roundw
        case rel => exact ⟨k + 1, ow3, by omega, by go_num, S5.out⟩
        case measure => simp [intOf]; omega
      · have hkk : k = m := by omega
        subst hkk
        have hkn : ¬ ((k : Int) < (k : Int)) := by omega
        have hA := Lib.hid hS.out.a
        have hB := Lib.hid hS.out.b
        have hC := Lib.hid hS.out.c
        have hT := Lib.hid hS.out.rT.toPuts.2
        have hBk := Lib.hid hS.out.rB.toPuts.2
        have hK := Lib.hid hS.out.clean
        have hDD := Lib.hid hS.out.d
        clear hS
        go_wp2_with fail
        refine (put27_c wr ow 1 qa k d D FI [] [] ps hA.out hK.out.fresh (by decide) hDD.out hpl (by omega)).mono ?_
        rintro e w6 ⟨rfl, ow6, tr6, a6⟩
        have K6 := Lib.hid (hK.out.tr tr6 (by decide))
        have A6 := Lib.hid a6
        have B6 := Lib.hid (hB.out.other tr6 (by decide))
        have C6 := Lib.hid (hC.out.other tr6 (by decide))
        have T6 := Lib.hid (hT.out.keep tr6.size (tr6.toSame (by decide)))
        have U6 := Lib.hid (hBk.out.keep tr6.size (tr6.toSame (by decide)))
        clear tr6 a6 hK hA hB hC hT hBk hDD
        go_wp2_with fail
        refine (put27_s w6 ow6 2 4 qb k cT AT FI [] [] (turnedTo ps u k) B6.out K6.out.fresh (by decide) (by decide) T6.out (length_turnedTo _ _ _) (by omega)).mono ?_
        rintro e w7 ⟨rfl, ow7, tr7, a7⟩
        have K7 := Lib.hid (K6.out.tr tr7 (by decide))
        have B7 := Lib.hid a7
        have A7 := Lib.hid (A6.out.other tr7 (by decide))
        have C7 := Lib.hid (C6.out.other tr7 (by decide))
        have U7 := Lib.hid (U6.out.keep tr7.size (tr7.toSame (by decide)))
        clear tr7 a7 K6 A6 B6 C6 T6 U6
        go_wp2_with fail
        refine (put27_s w7 ow7 3 5 qc k cB AB FI [] [] (backTo ps k) C7.out K7.out.fresh (by decide) (by decide) U7.out (length_backTo _ _) (by omega)).mono ?_
        rintro e w8 ⟨rfl, ow8, tr8, a8⟩
        have K8 := Lib.hid (K7.out.tr tr8 (by decide))
        have C8 := Lib.hid a8
        have A8 := Lib.hid (A7.out.other tr8 (by decide))
        have B8 := Lib.hid (B7.out.other tr8 (by decide))
        clear tr8 a8 K7 A7 B7 C7 U7
        obtain ⟨PA, hPA⟩ : ∃ P, passes FI ps k [] = P := ⟨_, rfl⟩
        obtain ⟨PB, hPB⟩ : ∃ P, passes FI (turnedTo ps u k) k [] = P := ⟨_, rfl⟩
        obtain ⟨PC, hPC⟩ : ∃ P, passes FI (backTo ps k) k [] = P := ⟨_, rfl⟩
        rw [hPA] at A8
        rw [hPB] at B8
        rw [hPC] at C8
        rw [hPA, hPB, hPC] at HO
        clear hPA hPB hPC
        obtain ⟨OL, hOL⟩ : ∃ OL, orderL FI PA = OL := ⟨_, rfl⟩
        have hOl : OL.length ≤ 1000 := by rw [← hOL, (order_facts A8.out.wf).2.2]; exact A8.out.wf.len
        rw [hOL] at HO
        go_wp2_with fail
        refine (allq_c w8 ow8 1 6 qa FI PA [] A8.out K8.out.fresh (by decide) (by decide)).mono ?_
        rintro e w9 ⟨v9, ow9, rfl, tr9, row9⟩
        rw [hOL] at row9
        obtain ⟨A1, c1, rfl, _⟩ := row9.form
        have K9 := Lib.hid (K8.out.tr tr9 (by decide))
        have A9 := Lib.hid (A8.out.other tr9 (by decide))
        have B9 := Lib.hid (B8.out.other tr9 (by decide))
        have C9 := Lib.hid (C8.out.other tr9 (by decide))
        have R9 := Lib.hid row9
        clear tr9 row9 K8 A8 B8 C8
        go_wp2_with fail
        refine (allq_c w9 ow9 2 7 qb FI PB [] B9.out K9.out.fresh (by decide) (by decide)).mono ?_
        rintro e w10 ⟨v10, ow10, rfl, tr10, row10⟩
        rw [HO.out.1] at row10
        obtain ⟨A2, c2, rfl, _⟩ := row10.form
        have K10 := Lib.hid (K9.out.tr tr10 (by decide))
        have A10 := Lib.hid (A9.out.other tr10 (by decide))
        have C10 := Lib.hid (C9.out.other tr10 (by decide))
        have R10 := Lib.hid (R9.out.keep (tr10.toSame (by decide)))
        have S10 := Lib.hid row10
        clear tr10 row10 K9 A9 B9 C9 R9
        go_wp2_with fail
        refine (same28_c A1 A2 OL.length OL.length c1 c2 OL OL w10 ow10 ow10 6 7 R10.out.toIdsR.2 S10.out.toIdsR.2 rfl rfl (by omega)).mono ?_
        rintro e w11 ⟨rfl, hb11⟩
        rw [decide_eq_true rfl]
        have K11 := Lib.hid (K10.out.next hb11)
        have A11 := Lib.hid (A10.out.next hb11)
        have C11 := Lib.hid (C10.out.next hb11)
        clear hb11 K10 A10 C10 R10 S10
        go_wp2_with fail
        refine (allq_c w11 ow10 1 8 qa FI PA [] A11.out K11.out.fresh (by decide) (by decide)).mono ?_
        rintro e w12 ⟨v12, ow12, rfl, tr12, row12⟩
        rw [hOL] at row12
        obtain ⟨A3, c3, rfl, _⟩ := row12.form
        have K12 := Lib.hid (K11.out.tr tr12 (by decide))
        have C12 := Lib.hid (C11.out.other tr12 (by decide))
        have R12 := Lib.hid row12
        clear tr12 row12 K11 A11 C11
        go_wp2_with fail
        refine (allq_c w12 ow12 3 9 qc FI PC [] C12.out K12.out.fresh (by decide) (by decide)).mono ?_
        rintro e w13 ⟨v13, ow13, rfl, tr13, row13⟩
        rw [HO.out.2] at row13
        obtain ⟨A4, c4, rfl, _⟩ := row13.form
        have K13 := Lib.hid (K12.out.tr tr13 (by decide))
        have R13 := Lib.hid (R12.out.keep (tr13.toSame (by decide)))
        have S13 := Lib.hid row13
        clear tr13 row13 K12 C12 R12
        go_wp2_with fail
        refine (same28_c A3 A4 OL.length OL.length c3 c4 OL OL w13 ow13 ow13 8 9 R13.out.toIdsR.2 S13.out.toIdsR.2 rfl rfl (by omega)).mono ?_
        rintro e w14 ⟨rfl, hb14⟩
        rw [decide_eq_true rfl]
        have K14 := Lib.hid (K13.out.next hb14)
        clear hb14
        go_wp2_with fail
        go_ret
        exact ⟨rfl, K14.out.below⟩

set_option maxRecDepth 100000 in
set_option maxHeartbeats 4000000 in
theorem turned_many (A D : Option Addr) (n c m d u : Nat) (w : World) (h : 12 < n ∨ 12 < m) :
    Calls Try.prog 4 #[.slice A n c, .slice D m d, .int .u8 u] w fun e w' => e = .returned (.bool true) ∧ Below w.heap.size w w' := by
  go_enter Try.func4, Try.ntmps4
  go_wp2_with fail
  refine (awake24_c _).mono ?_
  rintro e w1 ⟨rfl, hB⟩
  have K1 := Lib.hid ((Clean.start w).next hB)
  clear hB
  by_cases h1 : 12 < n
  · have h2 : (12 : Int) < (n : Int) := by omega
    clear h h1
    go_wp2_with fail
    refine (awake24_c _).mono ?_
    rintro e w2 ⟨rfl, hB⟩
    have K2 := Lib.hid (K1.out.next hB)
    clear K1 hB
    go_wp2_with fail
    go_ret
    exact ⟨rfl, K2.out.below⟩
  · have h2 : ¬ (12 : Int) < (n : Int) := by omega
    have h3 : (12 : Int) < (m : Int) := by omega
    clear h h1
    go_wp2_with fail
    refine (awake24_c _).mono ?_
    rintro e w2 ⟨rfl, hB⟩
    have K2 := Lib.hid (K1.out.next hB)
    clear K1 hB
    go_wp2_with fail
    go_ret
    exact ⟨rfl, K2.out.below⟩
theorem turned_any (A D : Option Addr) (n c m d : Nat) (ids0 : List Id) (ps : List (Id × Id)) (u : Nat) (w : World) (hR : IdsR w (fun _ => 0) 0 A ids0) (hn : ids0.length = n) (hD : ManyR putOf 4 w (fun _ => 0) 0 D ps) (hm : ps.length = m) (hu : u < 256) :
    Calls Try.prog 4 #[.slice A n c, .slice D m d, .int .u8 u] w fun e w' => e = .returned (.bool true) ∧ Below w.heap.size w w' := by
  by_cases h1 : n ≤ 12
  · by_cases h2 : m ≤ 12
    · exact turned_few A D n c m d ids0 ps u w hR hn hD hm h1 h2 hu
    · exact turned_many A D n c m d u w (.inr (by omega))
  · exact turned_many A D n c m d u w (.inl (by omega))
end Go.Proofs.Ytgmlhpkhecbkoaa
