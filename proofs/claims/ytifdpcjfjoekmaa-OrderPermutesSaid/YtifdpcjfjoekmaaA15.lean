/-
  slices.symMergeCmpFunc at ints: its contract. Condition: the slice lies in a block of its own; what compares is the closure of order.Permutation.
-/
import Derived.Test.YtifdpcjfjoekmaaA14
namespace Go.Proofs.Ytifdpcjfjoekmaa
open Go.RowKit

theorem Cut.fin {cf : Nat → Nat → Int} {N : Nat} (o : Ord cf N) {d : List Nat} {a m b s mid E : Nat} (M : Mrg cf N d a m b) (h : Cut cf d ((a + b) / 2 + m - 1) (loOf a m b) (hiOf a m b) s s) (hm : (a + b) / 2 = mid) (hE : mid + m - s = E) :
    (a ≤ s ∧ s ≤ mid ∧ s ≤ m ∧ mid ≤ E ∧ m ≤ E ∧ E ≤ b) ∧ ∀ d1, Rot d d1 s m E → ((¬ (a < s ∧ s < mid) → Srt cf a mid d1) ∧ (a < s ∧ s < mid → Mrg cf N d1 a s mid)) ∧ ∀ d2, Mv a mid d1 d2 → ((¬ (mid < E ∧ E < b) → Srt cf mid b d2) ∧ (mid < E ∧ E < b → Mrg cf N d2 mid E b)) ∧ ∀ d3, Mv mid b d2 d3 → Srt cf a mid d2 → Srt cf mid b d3 → Srt cf a b d3 ∧ Mv a b d d3 := by
  subst hm
  subst hE
  have hl := lo_hi M.am M.mb
  have h1 := h.h1
  have h3 := h.h3
  exact ⟨by omega, fun d1 r => ⟨M.low o h r, fun d2 v => ⟨M.high o h r v, fun d3 u s1 s2 => M.whole o h r v u s1 s2⟩⟩⟩

set_option maxRecDepth 100000 in
set_option maxHeartbeats 16000000 in
theorem sym_more (w : World) (g n cap bl bk : Nat) (cf : Nat → Nat → Int) (hC : CmpC w g n cf bl bk) (o : Ord cf n) (hn : n ≤ 1000000) (a m b : Nat) (d : List Nat) (W : World) (h : SS w g n W d) (M : Mrg cf n d a m b) (hm : m ≠ a + 1) (hb : b ≠ m + 1)
    (hrec : ∀ (a' m' b' : Nat) (d' : List Nat) (W' : World), b' - a' < b - a → SS w g n W' d' → Mrg cf n d' a' m' b' → Calls Try.prog 30 #[.slice (some ⟨g, 0, none⟩) n cap, .int .i64 a', .int .i64 m', .int .i64 b', .func (.func 17) #[] #[.pointer (some ⟨bl, 0, none⟩), .pointer (some ⟨bk, 0, none⟩)]] W' (SrtP w g n cf d' a' b')) :
    Calls Try.prog 30 #[.slice (some ⟨g, 0, none⟩) n cap, .int .i64 a, .int .i64 m, .int .i64 b, .func (.func 17) #[] #[.pointer (some ⟨bl, 0, none⟩), .pointer (some ⟨bk, 0, none⟩)]] W (SrtP w g n cf d a b) := by
  have H := Lib.hid h
  have HC := Lib.hid hC
  have HM := Lib.hid M
  have HO := Lib.hid o
  have HR := Lib.hid hrec
  have ham := M.am
  have hmb := M.mb
  have hbn : b ≤ n := by have := M.len; rw [h.len] at this; exact this
  have HLen := Lib.hid h.len
  clear h hC M o hrec
  have e1 : ((m : Int) - (a : Int) == 1) = false := by rw [beq_eq_false_iff_ne]; omega
  have e2 : ((b : Int) - (m : Int) == 1) = false := by rw [beq_eq_false_iff_ne]; omega
  clear hb hm
  obtain ⟨mid, hmid⟩ : ∃ k, (a + b) / 2 = k := ⟨_, rfl⟩
  have hsum0 : ((a : Int) + (b : Int)) / 2 = (mid : Int) := by omega
  have HMid := Lib.hid hmid
  obtain ⟨lo, hlo⟩ : ∃ k, loOf a m b = k := ⟨_, rfl⟩
  obtain ⟨hi, hhi⟩ : ∃ k, hiOf a m b = k := ⟨_, rfl⟩
  have lh := lo_hi ham hmb
  rw [hlo, hhi, hmid] at lh
  have HLo := Lib.hid (And.intro hlo hhi)
  have HCut := Lib.hid (show Cut cf d (mid + m - 1) lo hi lo hi by have := Cut.start (cf := cf) (d := d) ham hmb; rw [hlo, hhi, hmid] at this; exact this)
  have hplace := Lib.hid (fun c hc1 hc2 => cut_places ham hmb (c := c) hc1 hc2)
  rw [hlo, hhi, hmid] at hplace
  have p1 : (mid : Int) + (m : Int) - 1 = ((mid + m - 1 : Nat) : Int) := by omega
  obtain ⟨P, hP⟩ : ∃ P, mid + m - 1 = P := ⟨_, rfl⟩
  rw [hP] at HCut p1 hplace
  have HP := Lib.hid hP
  have hlo1 : mid < m → (mid : Int) + (m : Int) - (b : Int) = (lo : Int) ∧ hi = mid := fun hc => by
    have e : loOf a m b = mid + m - b := by unfold loOf; rw [hmid, if_pos hc]
    have e' : hiOf a m b = mid := by unfold hiOf; rw [hmid, if_pos hc]
    omega
  have hlo2 : ¬ mid < m → lo = a ∧ hi = m := fun hc => by
    have e : loOf a m b = a := by unfold loOf; rw [hmid, if_neg hc]
    have e' : hiOf a m b = m := by unfold hiOf; rw [hmid, if_neg hc]
    omega
  clear hlo hhi hP hmid
  have hP2 : P + 1 = mid + m := by have := HP.out; omega
  have HP2 := Lib.hid hP2
  clear hP2
  have lh1 := lh.1
  have lh2 := lh.2.1
  have lh3 := lh.2.2.1
  have lh4 := lh.2.2.2.1
  have lh5 := lh.2.2.2.2.1
  have lh6 := lh.2.2.2.2.2.1
  have lh7 := lh.2.2.2.2.2.2
  clear lh
  by_cases hc : mid < m
  · obtain ⟨hl1, hl2⟩ := hlo1 hc
    have hci : (mid : Int) < (m : Int) := by omega
    clear hlo1 hlo2 hc
    have HL := Lib.hid (And.intro hl1 hl2)
    clear hl2
    go_enter Try.func30, Try.ntmps30
    go_wp2_with fail
    go_loopw [20, 21] (fun i j wr => ∃ x y : Nat, i = .int .i64 x ∧ j = .int .i64 y ∧ Hid (SS w g n wr d ∧ Cut cf d P lo hi x y)) (fun i j _ => (intOf j).toNat - (intOf i).toNat)
    case atStart => exact ⟨lo, hi, rfl, by rw [HL.out.2], ⟨H.out, HCut.out⟩⟩
    case round =>
      obtain ⟨x, y, rfl, rfl, hS⟩ := hrel
      have hx1 : lo ≤ x := hS.out.2.h1
      have hx2 : x ≤ y := hS.out.2.h2
      have hx3 : y ≤ hi := hS.out.2.h3
      by_cases hlt : x < y
      · obtain ⟨z, hz⟩ : ∃ z, (x + y) / 2 = z := ⟨_, rfl⟩
        have hz1 : x ≤ z := by omega
        have hz2 : z < y := by omega
        have HZ := Lib.hid hz
        clear hz
        obtain ⟨w1', w2', w3', w4'⟩ := hplace.out z (by omega) (by omega)
        have c1 := hS.out.1.cell (p := P - z) (by omega)
        have c2 := hS.out.1.cell (p := z) (by omega)
        have lg := hS.out.1.blk.lt
        have nz : D d z < n := HM.out.under.at' (by rw [HLen.out]; omega)
        have na : D d (P - z) < n := HM.out.under.at' (by rw [HLen.out]; omega)
        have HCC := Lib.hid (HC.out wr.drew (hS.out.1.off.next ((Below.refl _ _).drew)) (D d (P - z)) (D d z) na nz)
        have HV := Lib.hid (HM.out.vals z (P - z) w1' w2' w3' w4')
        obtain ⟨vz, hvz⟩ : ∃ v, D d z = v := ⟨_, rfl⟩
        obtain ⟨va, hva⟩ : ∃ v, D d (P - z) = v := ⟨_, rfl⟩
        rw [hvz] at c2 HCC
        rw [hva] at c1 HCC
        have HVZ := Lib.hid hvz
        have HVA := Lib.hid hva
        clear hvz hva nz na
        have HC : AllCells wr.drew [(⟨g, P - z, none⟩, .int .i64 va), (⟨g, z, none⟩, .int .i64 vz)] := ⟨c1, c2, trivial⟩
        have q1 : (x : Int) < (y : Int) := by omega
        have z0 : (0 : Int) ≤ (z : Int) := by omega
        have z1 : (z : Int) < (n : Int) := by omega
        have a0 : (0 : Int) ≤ (P : Int) - (z : Int) := by omega
        have a1 : (P : Int) - (z : Int) < (n : Int) := by omega
        have t1 : ((P : Int) - (z : Int)).toNat = P - z := by omega
        have sb : IntKind.i64.wrap ((P : Int) - (z : Int)) = (P : Int) - (z : Int) := IntWalk.i64_in _ (by omega)
        have hsum : ((x : Int) + (y : Int)) / 2 = (z : Int) := by have := HZ.out; omega
        go_wp2_with fail
        refine region_free _ [0, 1, 2, 3, 4, 5, 6, 7, 8, 9, 10] 3 (by kernel_rfl) (by kernel_rfl) (by kernel_rfl) (by kernel_rfl) (by kernel_rfl) (fun _ _ _ _ _ h => h) HC ?_
        intro hne hu
        simp only [AllCells] at hu
        simp only [pick, List.take_succ_cons, List.take_zero, List.drop_succ_cons, List.drop_zero, List.cons_append, List.nil_append]
        repeat (go_big_quiet_step (fail))
        refine wpQuiet_nil ?_
        clear hne hu
        refine anyN_oneL 11 (by kernel_rfl) ?_
        simp only [List.take_succ_cons, List.take_zero, List.drop_succ_cons, List.drop_zero]
        go_wp2_with fail
        refine HCC.out.mono ?_
        rintro e w1 ⟨rfl, b1⟩
        have HC1 := AllCells.below HC b1
        have B1 := Lib.hid b1
        clear b1 HCC
        go_wp2_with fail
        refine And.intro (fun _ => HC1) ?_
        refine anyN_more [12, 13] 0 (by kernel_rfl) (by kernel_rfl) (by kernel_rfl) (by kernel_rfl) (fun _ _ _ _ _ h => h) HC1 ?_
        intro hne hu
        simp only [AllCells] at hu
        simp only [pick, List.take_succ_cons, List.take_zero, List.drop_succ_cons, List.drop_zero, List.cons_append, List.nil_append]
        repeat (go_big_quiet_step (fail))
        refine wpQuiet_nil ?_
        clear hne hu
        refine ⟨by kernel_rfl, ?_⟩
        clear HC HC1 c1 c2 lg
        by_cases hcf : cf va vz < 0
        · have hcb : decide (cf va vz < 0) = true := decide_eq_true hcf
          have hcb2 : decide (0 ≤ cf va vz) = false := decide_eq_false (by omega)
          simp only [hcb, hcb2, Bool.not_true]
          clear hcb hcb2
          have HNX := Lib.hid (show SS w g n w1 d ∧ Cut cf d P lo hi x z from ⟨(hS.out.1.next ((Below.refl _ wr).drew)).next B1.out, by
            have T1 : T cf (D d (P - z)) (D d z) := .inl (by rw [HVZ.out, HVA.out]; exact hcf)
            have c := hS.out.2
            rw [← HP.out, ← HMid.out] at T1
            rw [← HP.out, ← HMid.out, ← HLo.out.1, ← HLo.out.2] at c ⊢
            exact c.fewer HO.out HM.out hz1 hz2 T1⟩)
          clear hS
          go_wp2_with fail
          go_roundw
          case rel => exact ⟨x, z, rfl, rfl, HNX.out⟩
          case measure => simp [intOf]; omega
        · have hcb : decide (cf va vz < 0) = false := decide_eq_false hcf
          have hcb2 : decide (0 ≤ cf va vz) = true := decide_eq_true (by omega)
          simp only [hcb, hcb2, Bool.not_false]
          clear hcb hcb2
          have HNX := Lib.hid (show SS w g n w1 d ∧ Cut cf d P lo hi (z + 1) y from ⟨(hS.out.1.next ((Below.refl _ wr).drew)).next B1.out, by
            have T1 : T cf (D d z) (D d (P - z)) := .inr ⟨by rw [HVZ.out, HVA.out]; exact hcf, HV.out⟩
            have c := hS.out.2
            rw [← HP.out, ← HMid.out] at T1
            rw [← HP.out, ← HMid.out, ← HLo.out.1, ← HLo.out.2] at c ⊢
            exact c.more HO.out HM.out hz1 hz2 T1⟩)
          clear hS
          go_wp2_with fail
          go_roundw
          case rel => exact ⟨z + 1, y, by go_num, rfl, HNX.out⟩
          case measure => simp [intOf]; omega
      · have hxy' : x = y := by omega
        subst hxy'
        have q1 : ¬ (x : Int) < (x : Int) := by omega
        obtain ⟨E, hE⟩ : ∃ E, mid + m - x = E := ⟨_, rfl⟩
        have hc := hS.out.2
        rw [← HP.out, ← HMid.out, ← HLo.out.1, ← HLo.out.2] at hc
        have hfin := hc.fin HO.out HM.out HMid.out hE
        obtain ⟨⟨u1, u2, u3, u4, u5, u6⟩, hf⟩ := hfin
        have HF := Lib.hid hf
        have HS1 := Lib.hid hS.out.1
        have he : (mid : Int) + (m : Int) - (x : Int) = (E : Int) := by omega
        have HE := Lib.hid hE
        clear hf hc hS hE
        by_cases kA : x < m
        · by_cases kB : x < mid
          · by_cases kC : a < x
            · by_cases kD : E < b
              · have qA : (x : Int) < (m : Int) := by omega
                have qA2 : (mid : Int) < (E : Int) := by omega
                have qB : (x : Int) < (mid : Int) := by omega
                have qB2 : (m : Int) < (E : Int) := by omega
                have qC : (a : Int) < (x : Int) := by omega
                have qD : (E : Int) < (b : Int) := by omega
                have HRot := Lib.hid (rotate_c w g n cap x m E (.func (.func 17) #[] #[.pointer (some ⟨bl, 0, none⟩), .pointer (some ⟨bk, 0, none⟩)]) d wr HS1.out (by omega) (by omega) (by omega) hn)
                go_wp2_with fail
                refine HRot.out.mono ?_
                rintro e W1 ⟨rfl, d1, s1, r1⟩
                have HS2 := Lib.hid s1
                have HR1 := Lib.hid r1
                clear s1 r1 HRot
                have HF1 := Lib.hid (HF.out d1 HR1.out)
                clear HF HR1
                have HRec := Lib.hid (HR.out a x mid d1 _ (by omega) HS2.out (HF1.out.1.2 (by omega)))
                go_wp2_with fail
                refine HRec.out.mono ?_
                rintro e W2 ⟨rfl, d2, s2, v2, t2⟩
                have HS3 := Lib.hid s2
                have HV2 := Lib.hid v2
                have HT2 := Lib.hid t2
                clear s2 v2 t2 HRec
                have HF2 := Lib.hid (HF1.out.2 d2 HV2.out)
                clear HF1
                have HRec := Lib.hid (HR.out mid E b d2 _ (by omega) HS3.out (HF2.out.1.2 (by omega)))
                go_wp2_with fail
                refine HRec.out.mono ?_
                rintro e W3 ⟨rfl, d3, s3, v3, t3⟩
                have HS4 := Lib.hid s3
                have HV3 := Lib.hid v3
                have HT3 := Lib.hid t3
                clear s3 v3 t3 HRec
                have HF3 := Lib.hid (HF2.out.2 d3 HV3.out HT2.out HT3.out)
                clear HF2
                go_wp2_with fail
                all_goals
                  go_end0
                  exact ⟨rfl, d3, HS4.out, HF3.out.2, HF3.out.1⟩
              · have qA : (x : Int) < (m : Int) := by omega
                have qA2 : (mid : Int) < (E : Int) := by omega
                have qB : (x : Int) < (mid : Int) := by omega
                have qB2 : (m : Int) < (E : Int) := by omega
                have qC : (a : Int) < (x : Int) := by omega
                have qD : ¬ (E : Int) < (b : Int) := by omega
                have HRot := Lib.hid (rotate_c w g n cap x m E (.func (.func 17) #[] #[.pointer (some ⟨bl, 0, none⟩), .pointer (some ⟨bk, 0, none⟩)]) d wr HS1.out (by omega) (by omega) (by omega) hn)
                go_wp2_with fail
                refine HRot.out.mono ?_
                rintro e W1 ⟨rfl, d1, s1, r1⟩
                have HS2 := Lib.hid s1
                have HR1 := Lib.hid r1
                clear s1 r1 HRot
                have HF1 := Lib.hid (HF.out d1 HR1.out)
                clear HF HR1
                have HRec := Lib.hid (HR.out a x mid d1 _ (by omega) HS2.out (HF1.out.1.2 (by omega)))
                go_wp2_with fail
                refine HRec.out.mono ?_
                rintro e W2 ⟨rfl, d2, s2, v2, t2⟩
                have HS3 := Lib.hid s2
                have HV2 := Lib.hid v2
                have HT2 := Lib.hid t2
                clear s2 v2 t2 HRec
                have HF2 := Lib.hid (HF1.out.2 d2 HV2.out)
                clear HF1
                obtain ⟨d3, hd3⟩ : ∃ e, d2 = e := ⟨_, rfl⟩
                have HS4 := Lib.hid (show SS w g n _ d3 by rw [← hd3]; exact HS3.out)
                have HV3 := Lib.hid (show Mv mid b d2 d3 by rw [← hd3]; exact Mv.refl _ _ _)
                have HT3 := Lib.hid (show Srt cf mid b d3 by rw [← hd3]; exact HF2.out.1.1 (by omega))
                clear hd3
                have HF3 := Lib.hid (HF2.out.2 d3 HV3.out HT2.out HT3.out)
                clear HF2
                go_wp2_with fail
                all_goals
                  go_end0
                  exact ⟨rfl, d3, HS4.out, HF3.out.2, HF3.out.1⟩
            · by_cases kD : E < b
              · have qA : (x : Int) < (m : Int) := by omega
                have qA2 : (mid : Int) < (E : Int) := by omega
                have qB : (x : Int) < (mid : Int) := by omega
                have qB2 : (m : Int) < (E : Int) := by omega
                have qC : ¬ (a : Int) < (x : Int) := by omega
                have qD : (E : Int) < (b : Int) := by omega
                have HRot := Lib.hid (rotate_c w g n cap x m E (.func (.func 17) #[] #[.pointer (some ⟨bl, 0, none⟩), .pointer (some ⟨bk, 0, none⟩)]) d wr HS1.out (by omega) (by omega) (by omega) hn)
                go_wp2_with fail
                refine HRot.out.mono ?_
                rintro e W1 ⟨rfl, d1, s1, r1⟩
                have HS2 := Lib.hid s1
                have HR1 := Lib.hid r1
                clear s1 r1 HRot
                have HF1 := Lib.hid (HF.out d1 HR1.out)
                clear HF HR1
                obtain ⟨d2, hd2⟩ : ∃ e, d1 = e := ⟨_, rfl⟩
                have HS3 := Lib.hid (show SS w g n _ d2 by rw [← hd2]; exact HS2.out)
                have HV2 := Lib.hid (show Mv a mid d1 d2 by rw [← hd2]; exact Mv.refl _ _ _)
                have HT2 := Lib.hid (show Srt cf a mid d2 by rw [← hd2]; exact HF1.out.1.1 (by omega))
                clear hd2
                have HF2 := Lib.hid (HF1.out.2 d2 HV2.out)
                clear HF1
                have HRec := Lib.hid (HR.out mid E b d2 _ (by omega) HS3.out (HF2.out.1.2 (by omega)))
                go_wp2_with fail
                refine HRec.out.mono ?_
                rintro e W3 ⟨rfl, d3, s3, v3, t3⟩
                have HS4 := Lib.hid s3
                have HV3 := Lib.hid v3
                have HT3 := Lib.hid t3
                clear s3 v3 t3 HRec
                have HF3 := Lib.hid (HF2.out.2 d3 HV3.out HT2.out HT3.out)
                clear HF2
                go_wp2_with fail
                all_goals
                  go_end0
                  exact ⟨rfl, d3, HS4.out, HF3.out.2, HF3.out.1⟩
              · have qA : (x : Int) < (m : Int) := by omega
                have qA2 : (mid : Int) < (E : Int) := by omega
                have qB : (x : Int) < (mid : Int) := by omega
                have qB2 : (m : Int) < (E : Int) := by omega
                have qC : ¬ (a : Int) < (x : Int) := by omega
                have qD : ¬ (E : Int) < (b : Int) := by omega
                have HRot := Lib.hid (rotate_c w g n cap x m E (.func (.func 17) #[] #[.pointer (some ⟨bl, 0, none⟩), .pointer (some ⟨bk, 0, none⟩)]) d wr HS1.out (by omega) (by omega) (by omega) hn)
                go_wp2_with fail
                refine HRot.out.mono ?_
                rintro e W1 ⟨rfl, d1, s1, r1⟩
                have HS2 := Lib.hid s1
                have HR1 := Lib.hid r1
                clear s1 r1 HRot
                have HF1 := Lib.hid (HF.out d1 HR1.out)
                clear HF HR1
                obtain ⟨d2, hd2⟩ : ∃ e, d1 = e := ⟨_, rfl⟩
                have HS3 := Lib.hid (show SS w g n _ d2 by rw [← hd2]; exact HS2.out)
                have HV2 := Lib.hid (show Mv a mid d1 d2 by rw [← hd2]; exact Mv.refl _ _ _)
                have HT2 := Lib.hid (show Srt cf a mid d2 by rw [← hd2]; exact HF1.out.1.1 (by omega))
                clear hd2
                have HF2 := Lib.hid (HF1.out.2 d2 HV2.out)
                clear HF1
                obtain ⟨d3, hd3⟩ : ∃ e, d2 = e := ⟨_, rfl⟩
                have HS4 := Lib.hid (show SS w g n _ d3 by rw [← hd3]; exact HS3.out)
                have HV3 := Lib.hid (show Mv mid b d2 d3 by rw [← hd3]; exact Mv.refl _ _ _)
                have HT3 := Lib.hid (show Srt cf mid b d3 by rw [← hd3]; exact HF2.out.1.1 (by omega))
                clear hd3
                have HF3 := Lib.hid (HF2.out.2 d3 HV3.out HT2.out HT3.out)
                clear HF2
                go_wp2_with fail
                all_goals
                  go_end0
                  exact ⟨rfl, d3, HS4.out, HF3.out.2, HF3.out.1⟩
          · by_cases kC : a < x
            · by_cases kD : E < b
              · have qA : (x : Int) < (m : Int) := by omega
                have qA2 : (mid : Int) < (E : Int) := by omega
                have qB : ¬ (x : Int) < (mid : Int) := by omega
                have qB2 : ¬ (m : Int) < (E : Int) := by omega
                have qC : (a : Int) < (x : Int) := by omega
                have qD : (E : Int) < (b : Int) := by omega
                obtain ⟨d1, hd1⟩ : ∃ e, d = e := ⟨_, rfl⟩
                have HS2 := Lib.hid (show SS w g n wr d1 by rw [← hd1]; exact HS1.out)
                have HR1 := Lib.hid (show Rot d d1 x m E by rw [← hd1]; exact Rot.none (by omega) (by omega) (by omega))
                clear hd1
                have HF1 := Lib.hid (HF.out d1 HR1.out)
                clear HF HR1
                obtain ⟨d2, hd2⟩ : ∃ e, d1 = e := ⟨_, rfl⟩
                have HS3 := Lib.hid (show SS w g n _ d2 by rw [← hd2]; exact HS2.out)
                have HV2 := Lib.hid (show Mv a mid d1 d2 by rw [← hd2]; exact Mv.refl _ _ _)
                have HT2 := Lib.hid (show Srt cf a mid d2 by rw [← hd2]; exact HF1.out.1.1 (by omega))
                clear hd2
                have HF2 := Lib.hid (HF1.out.2 d2 HV2.out)
                clear HF1
                have HRec := Lib.hid (HR.out mid E b d2 _ (by omega) HS3.out (HF2.out.1.2 (by omega)))
                go_wp2_with fail
                refine HRec.out.mono ?_
                rintro e W3 ⟨rfl, d3, s3, v3, t3⟩
                have HS4 := Lib.hid s3
                have HV3 := Lib.hid v3
                have HT3 := Lib.hid t3
                clear s3 v3 t3 HRec
                have HF3 := Lib.hid (HF2.out.2 d3 HV3.out HT2.out HT3.out)
                clear HF2
                go_wp2_with fail
                all_goals
                  go_end0
                  exact ⟨rfl, d3, HS4.out, HF3.out.2, HF3.out.1⟩
              · have qA : (x : Int) < (m : Int) := by omega
                have qA2 : (mid : Int) < (E : Int) := by omega
                have qB : ¬ (x : Int) < (mid : Int) := by omega
                have qB2 : ¬ (m : Int) < (E : Int) := by omega
                have qC : (a : Int) < (x : Int) := by omega
                have qD : ¬ (E : Int) < (b : Int) := by omega
                obtain ⟨d1, hd1⟩ : ∃ e, d = e := ⟨_, rfl⟩
                have HS2 := Lib.hid (show SS w g n wr d1 by rw [← hd1]; exact HS1.out)
                have HR1 := Lib.hid (show Rot d d1 x m E by rw [← hd1]; exact Rot.none (by omega) (by omega) (by omega))
                clear hd1
                have HF1 := Lib.hid (HF.out d1 HR1.out)
                clear HF HR1
                obtain ⟨d2, hd2⟩ : ∃ e, d1 = e := ⟨_, rfl⟩
                have HS3 := Lib.hid (show SS w g n _ d2 by rw [← hd2]; exact HS2.out)
                have HV2 := Lib.hid (show Mv a mid d1 d2 by rw [← hd2]; exact Mv.refl _ _ _)
                have HT2 := Lib.hid (show Srt cf a mid d2 by rw [← hd2]; exact HF1.out.1.1 (by omega))
                clear hd2
                have HF2 := Lib.hid (HF1.out.2 d2 HV2.out)
                clear HF1
                obtain ⟨d3, hd3⟩ : ∃ e, d2 = e := ⟨_, rfl⟩
                have HS4 := Lib.hid (show SS w g n _ d3 by rw [← hd3]; exact HS3.out)
                have HV3 := Lib.hid (show Mv mid b d2 d3 by rw [← hd3]; exact Mv.refl _ _ _)
                have HT3 := Lib.hid (show Srt cf mid b d3 by rw [← hd3]; exact HF2.out.1.1 (by omega))
                clear hd3
                have HF3 := Lib.hid (HF2.out.2 d3 HV3.out HT2.out HT3.out)
                clear HF2
                go_wp2_with fail
                all_goals
                  go_end0
                  exact ⟨rfl, d3, HS4.out, HF3.out.2, HF3.out.1⟩
            · by_cases kD : E < b
              · have qA : (x : Int) < (m : Int) := by omega
                have qA2 : (mid : Int) < (E : Int) := by omega
                have qB : ¬ (x : Int) < (mid : Int) := by omega
                have qB2 : ¬ (m : Int) < (E : Int) := by omega
                have qC : ¬ (a : Int) < (x : Int) := by omega
                have qD : (E : Int) < (b : Int) := by omega
                obtain ⟨d1, hd1⟩ : ∃ e, d = e := ⟨_, rfl⟩
                have HS2 := Lib.hid (show SS w g n wr d1 by rw [← hd1]; exact HS1.out)
                have HR1 := Lib.hid (show Rot d d1 x m E by rw [← hd1]; exact Rot.none (by omega) (by omega) (by omega))
                clear hd1
                have HF1 := Lib.hid (HF.out d1 HR1.out)
                clear HF HR1
                obtain ⟨d2, hd2⟩ : ∃ e, d1 = e := ⟨_, rfl⟩
                have HS3 := Lib.hid (show SS w g n _ d2 by rw [← hd2]; exact HS2.out)
                have HV2 := Lib.hid (show Mv a mid d1 d2 by rw [← hd2]; exact Mv.refl _ _ _)
                have HT2 := Lib.hid (show Srt cf a mid d2 by rw [← hd2]; exact HF1.out.1.1 (by omega))
                clear hd2
                have HF2 := Lib.hid (HF1.out.2 d2 HV2.out)
                clear HF1
                have HRec := Lib.hid (HR.out mid E b d2 _ (by omega) HS3.out (HF2.out.1.2 (by omega)))
                go_wp2_with fail
                refine HRec.out.mono ?_
                rintro e W3 ⟨rfl, d3, s3, v3, t3⟩
                have HS4 := Lib.hid s3
                have HV3 := Lib.hid v3
                have HT3 := Lib.hid t3
                clear s3 v3 t3 HRec
                have HF3 := Lib.hid (HF2.out.2 d3 HV3.out HT2.out HT3.out)
                clear HF2
                go_wp2_with fail
                all_goals
                  go_end0
                  exact ⟨rfl, d3, HS4.out, HF3.out.2, HF3.out.1⟩
              · have qA : (x : Int) < (m : Int) := by omega
                have qA2 : (mid : Int) < (E : Int) := by omega
                have qB : ¬ (x : Int) < (mid : Int) := by omega
                have qB2 : ¬ (m : Int) < (E : Int) := by omega
                have qC : ¬ (a : Int) < (x : Int) := by omega
                have qD : ¬ (E : Int) < (b : Int) := by omega
                obtain ⟨d1, hd1⟩ : ∃ e, d = e := ⟨_, rfl⟩
                have HS2 := Lib.hid (show SS w g n wr d1 by rw [← hd1]; exact HS1.out)
                have HR1 := Lib.hid (show Rot d d1 x m E by rw [← hd1]; exact Rot.none (by omega) (by omega) (by omega))
                clear hd1
                have HF1 := Lib.hid (HF.out d1 HR1.out)
                clear HF HR1
                obtain ⟨d2, hd2⟩ : ∃ e, d1 = e := ⟨_, rfl⟩
                have HS3 := Lib.hid (show SS w g n _ d2 by rw [← hd2]; exact HS2.out)
                have HV2 := Lib.hid (show Mv a mid d1 d2 by rw [← hd2]; exact Mv.refl _ _ _)
                have HT2 := Lib.hid (show Srt cf a mid d2 by rw [← hd2]; exact HF1.out.1.1 (by omega))
                clear hd2
                have HF2 := Lib.hid (HF1.out.2 d2 HV2.out)
                clear HF1
                obtain ⟨d3, hd3⟩ : ∃ e, d2 = e := ⟨_, rfl⟩
                have HS4 := Lib.hid (show SS w g n _ d3 by rw [← hd3]; exact HS3.out)
                have HV3 := Lib.hid (show Mv mid b d2 d3 by rw [← hd3]; exact Mv.refl _ _ _)
                have HT3 := Lib.hid (show Srt cf mid b d3 by rw [← hd3]; exact HF2.out.1.1 (by omega))
                clear hd3
                have HF3 := Lib.hid (HF2.out.2 d3 HV3.out HT2.out HT3.out)
                clear HF2
                go_wp2_with fail
                all_goals
                  go_end0
                  exact ⟨rfl, d3, HS4.out, HF3.out.2, HF3.out.1⟩
        · by_cases kB : x < mid
          · by_cases kC : a < x
            · by_cases kD : E < b
              · have qA : ¬ (x : Int) < (m : Int) := by omega
                have qA2 : ¬ (mid : Int) < (E : Int) := by omega
                have qB : (x : Int) < (mid : Int) := by omega
                have qB2 : (m : Int) < (E : Int) := by omega
                have qC : (a : Int) < (x : Int) := by omega
                have qD : (E : Int) < (b : Int) := by omega
                obtain ⟨d1, hd1⟩ : ∃ e, d = e := ⟨_, rfl⟩
                have HS2 := Lib.hid (show SS w g n wr d1 by rw [← hd1]; exact HS1.out)
                have HR1 := Lib.hid (show Rot d d1 x m E by rw [← hd1]; exact Rot.none (by omega) (by omega) (by omega))
                clear hd1
                have HF1 := Lib.hid (HF.out d1 HR1.out)
                clear HF HR1
                have HRec := Lib.hid (HR.out a x mid d1 _ (by omega) HS2.out (HF1.out.1.2 (by omega)))
                go_wp2_with fail
                refine HRec.out.mono ?_
                rintro e W2 ⟨rfl, d2, s2, v2, t2⟩
                have HS3 := Lib.hid s2
                have HV2 := Lib.hid v2
                have HT2 := Lib.hid t2
                clear s2 v2 t2 HRec
                have HF2 := Lib.hid (HF1.out.2 d2 HV2.out)
                clear HF1
                obtain ⟨d3, hd3⟩ : ∃ e, d2 = e := ⟨_, rfl⟩
                have HS4 := Lib.hid (show SS w g n _ d3 by rw [← hd3]; exact HS3.out)
                have HV3 := Lib.hid (show Mv mid b d2 d3 by rw [← hd3]; exact Mv.refl _ _ _)
                have HT3 := Lib.hid (show Srt cf mid b d3 by rw [← hd3]; exact HF2.out.1.1 (by omega))
                clear hd3
                have HF3 := Lib.hid (HF2.out.2 d3 HV3.out HT2.out HT3.out)
                clear HF2
                go_wp2_with fail
                all_goals
                  go_end0
                  exact ⟨rfl, d3, HS4.out, HF3.out.2, HF3.out.1⟩
              · have qA : ¬ (x : Int) < (m : Int) := by omega
                have qA2 : ¬ (mid : Int) < (E : Int) := by omega
                have qB : (x : Int) < (mid : Int) := by omega
                have qB2 : (m : Int) < (E : Int) := by omega
                have qC : (a : Int) < (x : Int) := by omega
                have qD : ¬ (E : Int) < (b : Int) := by omega
                obtain ⟨d1, hd1⟩ : ∃ e, d = e := ⟨_, rfl⟩
                have HS2 := Lib.hid (show SS w g n wr d1 by rw [← hd1]; exact HS1.out)
                have HR1 := Lib.hid (show Rot d d1 x m E by rw [← hd1]; exact Rot.none (by omega) (by omega) (by omega))
                clear hd1
                have HF1 := Lib.hid (HF.out d1 HR1.out)
                clear HF HR1
                have HRec := Lib.hid (HR.out a x mid d1 _ (by omega) HS2.out (HF1.out.1.2 (by omega)))
                go_wp2_with fail
                refine HRec.out.mono ?_
                rintro e W2 ⟨rfl, d2, s2, v2, t2⟩
                have HS3 := Lib.hid s2
                have HV2 := Lib.hid v2
                have HT2 := Lib.hid t2
                clear s2 v2 t2 HRec
                have HF2 := Lib.hid (HF1.out.2 d2 HV2.out)
                clear HF1
                obtain ⟨d3, hd3⟩ : ∃ e, d2 = e := ⟨_, rfl⟩
                have HS4 := Lib.hid (show SS w g n _ d3 by rw [← hd3]; exact HS3.out)
                have HV3 := Lib.hid (show Mv mid b d2 d3 by rw [← hd3]; exact Mv.refl _ _ _)
                have HT3 := Lib.hid (show Srt cf mid b d3 by rw [← hd3]; exact HF2.out.1.1 (by omega))
                clear hd3
                have HF3 := Lib.hid (HF2.out.2 d3 HV3.out HT2.out HT3.out)
                clear HF2
                go_wp2_with fail
                all_goals
                  go_end0
                  exact ⟨rfl, d3, HS4.out, HF3.out.2, HF3.out.1⟩
            · by_cases kD : E < b
              · have qA : ¬ (x : Int) < (m : Int) := by omega
                have qA2 : ¬ (mid : Int) < (E : Int) := by omega
                have qB : (x : Int) < (mid : Int) := by omega
                have qB2 : (m : Int) < (E : Int) := by omega
                have qC : ¬ (a : Int) < (x : Int) := by omega
                have qD : (E : Int) < (b : Int) := by omega
                obtain ⟨d1, hd1⟩ : ∃ e, d = e := ⟨_, rfl⟩
                have HS2 := Lib.hid (show SS w g n wr d1 by rw [← hd1]; exact HS1.out)
                have HR1 := Lib.hid (show Rot d d1 x m E by rw [← hd1]; exact Rot.none (by omega) (by omega) (by omega))
                clear hd1
                have HF1 := Lib.hid (HF.out d1 HR1.out)
                clear HF HR1
                obtain ⟨d2, hd2⟩ : ∃ e, d1 = e := ⟨_, rfl⟩
                have HS3 := Lib.hid (show SS w g n _ d2 by rw [← hd2]; exact HS2.out)
                have HV2 := Lib.hid (show Mv a mid d1 d2 by rw [← hd2]; exact Mv.refl _ _ _)
                have HT2 := Lib.hid (show Srt cf a mid d2 by rw [← hd2]; exact HF1.out.1.1 (by omega))
                clear hd2
                have HF2 := Lib.hid (HF1.out.2 d2 HV2.out)
                clear HF1
                obtain ⟨d3, hd3⟩ : ∃ e, d2 = e := ⟨_, rfl⟩
                have HS4 := Lib.hid (show SS w g n _ d3 by rw [← hd3]; exact HS3.out)
                have HV3 := Lib.hid (show Mv mid b d2 d3 by rw [← hd3]; exact Mv.refl _ _ _)
                have HT3 := Lib.hid (show Srt cf mid b d3 by rw [← hd3]; exact HF2.out.1.1 (by omega))
                clear hd3
                have HF3 := Lib.hid (HF2.out.2 d3 HV3.out HT2.out HT3.out)
                clear HF2
                go_wp2_with fail
                all_goals
                  go_end0
                  exact ⟨rfl, d3, HS4.out, HF3.out.2, HF3.out.1⟩
              · have qA : ¬ (x : Int) < (m : Int) := by omega
                have qA2 : ¬ (mid : Int) < (E : Int) := by omega
                have qB : (x : Int) < (mid : Int) := by omega
                have qB2 : (m : Int) < (E : Int) := by omega
                have qC : ¬ (a : Int) < (x : Int) := by omega
                have qD : ¬ (E : Int) < (b : Int) := by omega
                obtain ⟨d1, hd1⟩ : ∃ e, d = e := ⟨_, rfl⟩
                have HS2 := Lib.hid (show SS w g n wr d1 by rw [← hd1]; exact HS1.out)
                have HR1 := Lib.hid (show Rot d d1 x m E by rw [← hd1]; exact Rot.none (by omega) (by omega) (by omega))
                clear hd1
                have HF1 := Lib.hid (HF.out d1 HR1.out)
                clear HF HR1
                obtain ⟨d2, hd2⟩ : ∃ e, d1 = e := ⟨_, rfl⟩
                have HS3 := Lib.hid (show SS w g n _ d2 by rw [← hd2]; exact HS2.out)
                have HV2 := Lib.hid (show Mv a mid d1 d2 by rw [← hd2]; exact Mv.refl _ _ _)
                have HT2 := Lib.hid (show Srt cf a mid d2 by rw [← hd2]; exact HF1.out.1.1 (by omega))
                clear hd2
                have HF2 := Lib.hid (HF1.out.2 d2 HV2.out)
                clear HF1
                obtain ⟨d3, hd3⟩ : ∃ e, d2 = e := ⟨_, rfl⟩
                have HS4 := Lib.hid (show SS w g n _ d3 by rw [← hd3]; exact HS3.out)
                have HV3 := Lib.hid (show Mv mid b d2 d3 by rw [← hd3]; exact Mv.refl _ _ _)
                have HT3 := Lib.hid (show Srt cf mid b d3 by rw [← hd3]; exact HF2.out.1.1 (by omega))
                clear hd3
                have HF3 := Lib.hid (HF2.out.2 d3 HV3.out HT2.out HT3.out)
                clear HF2
                go_wp2_with fail
                all_goals
                  go_end0
                  exact ⟨rfl, d3, HS4.out, HF3.out.2, HF3.out.1⟩
          · by_cases kC : a < x
            · by_cases kD : E < b
              · have qA : ¬ (x : Int) < (m : Int) := by omega
                have qA2 : ¬ (mid : Int) < (E : Int) := by omega
                have qB : ¬ (x : Int) < (mid : Int) := by omega
                have qB2 : ¬ (m : Int) < (E : Int) := by omega
                have qC : (a : Int) < (x : Int) := by omega
                have qD : (E : Int) < (b : Int) := by omega
                obtain ⟨d1, hd1⟩ : ∃ e, d = e := ⟨_, rfl⟩
                have HS2 := Lib.hid (show SS w g n wr d1 by rw [← hd1]; exact HS1.out)
                have HR1 := Lib.hid (show Rot d d1 x m E by rw [← hd1]; exact Rot.none (by omega) (by omega) (by omega))
                clear hd1
                have HF1 := Lib.hid (HF.out d1 HR1.out)
                clear HF HR1
                obtain ⟨d2, hd2⟩ : ∃ e, d1 = e := ⟨_, rfl⟩
                have HS3 := Lib.hid (show SS w g n _ d2 by rw [← hd2]; exact HS2.out)
                have HV2 := Lib.hid (show Mv a mid d1 d2 by rw [← hd2]; exact Mv.refl _ _ _)
                have HT2 := Lib.hid (show Srt cf a mid d2 by rw [← hd2]; exact HF1.out.1.1 (by omega))
                clear hd2
                have HF2 := Lib.hid (HF1.out.2 d2 HV2.out)
                clear HF1
                obtain ⟨d3, hd3⟩ : ∃ e, d2 = e := ⟨_, rfl⟩
                have HS4 := Lib.hid (show SS w g n _ d3 by rw [← hd3]; exact HS3.out)
                have HV3 := Lib.hid (show Mv mid b d2 d3 by rw [← hd3]; exact Mv.refl _ _ _)
                have HT3 := Lib.hid (show Srt cf mid b d3 by rw [← hd3]; exact HF2.out.1.1 (by omega))
                clear hd3
                have HF3 := Lib.hid (HF2.out.2 d3 HV3.out HT2.out HT3.out)
                clear HF2
                go_wp2_with fail
                all_goals
                  go_end0
                  exact ⟨rfl, d3, HS4.out, HF3.out.2, HF3.out.1⟩
              · have qA : ¬ (x : Int) < (m : Int) := by omega
                have qA2 : ¬ (mid : Int) < (E : Int) := by omega
                have qB : ¬ (x : Int) < (mid : Int) := by omega
                have qB2 : ¬ (m : Int) < (E : Int) := by omega
                have qC : (a : Int) < (x : Int) := by omega
                have qD : ¬ (E : Int) < (b : Int) := by omega
                obtain ⟨d1, hd1⟩ : ∃ e, d = e := ⟨_, rfl⟩
                have HS2 := Lib.hid (show SS w g n wr d1 by rw [← hd1]; exact HS1.out)
                have HR1 := Lib.hid (show Rot d d1 x m E by rw [← hd1]; exact Rot.none (by omega) (by omega) (by omega))
                clear hd1
                have HF1 := Lib.hid (HF.out d1 HR1.out)
                clear HF HR1
                obtain ⟨d2, hd2⟩ : ∃ e, d1 = e := ⟨_, rfl⟩
                have HS3 := Lib.hid (show SS w g n _ d2 by rw [← hd2]; exact HS2.out)
                have HV2 := Lib.hid (show Mv a mid d1 d2 by rw [← hd2]; exact Mv.refl _ _ _)
                have HT2 := Lib.hid (show Srt cf a mid d2 by rw [← hd2]; exact HF1.out.1.1 (by omega))
                clear hd2
                have HF2 := Lib.hid (HF1.out.2 d2 HV2.out)
                clear HF1
                obtain ⟨d3, hd3⟩ : ∃ e, d2 = e := ⟨_, rfl⟩
                have HS4 := Lib.hid (show SS w g n _ d3 by rw [← hd3]; exact HS3.out)
                have HV3 := Lib.hid (show Mv mid b d2 d3 by rw [← hd3]; exact Mv.refl _ _ _)
                have HT3 := Lib.hid (show Srt cf mid b d3 by rw [← hd3]; exact HF2.out.1.1 (by omega))
                clear hd3
                have HF3 := Lib.hid (HF2.out.2 d3 HV3.out HT2.out HT3.out)
                clear HF2
                go_wp2_with fail
                all_goals
                  go_end0
                  exact ⟨rfl, d3, HS4.out, HF3.out.2, HF3.out.1⟩
            · by_cases kD : E < b
              · have qA : ¬ (x : Int) < (m : Int) := by omega
                have qA2 : ¬ (mid : Int) < (E : Int) := by omega
                have qB : ¬ (x : Int) < (mid : Int) := by omega
                have qB2 : ¬ (m : Int) < (E : Int) := by omega
                have qC : ¬ (a : Int) < (x : Int) := by omega
                have qD : (E : Int) < (b : Int) := by omega
                obtain ⟨d1, hd1⟩ : ∃ e, d = e := ⟨_, rfl⟩
                have HS2 := Lib.hid (show SS w g n wr d1 by rw [← hd1]; exact HS1.out)
                have HR1 := Lib.hid (show Rot d d1 x m E by rw [← hd1]; exact Rot.none (by omega) (by omega) (by omega))
                clear hd1
                have HF1 := Lib.hid (HF.out d1 HR1.out)
                clear HF HR1
                obtain ⟨d2, hd2⟩ : ∃ e, d1 = e := ⟨_, rfl⟩
                have HS3 := Lib.hid (show SS w g n _ d2 by rw [← hd2]; exact HS2.out)
                have HV2 := Lib.hid (show Mv a mid d1 d2 by rw [← hd2]; exact Mv.refl _ _ _)
                have HT2 := Lib.hid (show Srt cf a mid d2 by rw [← hd2]; exact HF1.out.1.1 (by omega))
                clear hd2
                have HF2 := Lib.hid (HF1.out.2 d2 HV2.out)
                clear HF1
                obtain ⟨d3, hd3⟩ : ∃ e, d2 = e := ⟨_, rfl⟩
                have HS4 := Lib.hid (show SS w g n _ d3 by rw [← hd3]; exact HS3.out)
                have HV3 := Lib.hid (show Mv mid b d2 d3 by rw [← hd3]; exact Mv.refl _ _ _)
                have HT3 := Lib.hid (show Srt cf mid b d3 by rw [← hd3]; exact HF2.out.1.1 (by omega))
                clear hd3
                have HF3 := Lib.hid (HF2.out.2 d3 HV3.out HT2.out HT3.out)
                clear HF2
                go_wp2_with fail
                all_goals
                  go_end0
                  exact ⟨rfl, d3, HS4.out, HF3.out.2, HF3.out.1⟩
              · have qA : ¬ (x : Int) < (m : Int) := by omega
                have qA2 : ¬ (mid : Int) < (E : Int) := by omega
                have qB : ¬ (x : Int) < (mid : Int) := by omega
                have qB2 : ¬ (m : Int) < (E : Int) := by omega
                have qC : ¬ (a : Int) < (x : Int) := by omega
                have qD : ¬ (E : Int) < (b : Int) := by omega
                obtain ⟨d1, hd1⟩ : ∃ e, d = e := ⟨_, rfl⟩
                have HS2 := Lib.hid (show SS w g n wr d1 by rw [← hd1]; exact HS1.out)
                have HR1 := Lib.hid (show Rot d d1 x m E by rw [← hd1]; exact Rot.none (by omega) (by omega) (by omega))
                clear hd1
                have HF1 := Lib.hid (HF.out d1 HR1.out)
                clear HF HR1
                obtain ⟨d2, hd2⟩ : ∃ e, d1 = e := ⟨_, rfl⟩
                have HS3 := Lib.hid (show SS w g n _ d2 by rw [← hd2]; exact HS2.out)
                have HV2 := Lib.hid (show Mv a mid d1 d2 by rw [← hd2]; exact Mv.refl _ _ _)
                have HT2 := Lib.hid (show Srt cf a mid d2 by rw [← hd2]; exact HF1.out.1.1 (by omega))
                clear hd2
                have HF2 := Lib.hid (HF1.out.2 d2 HV2.out)
                clear HF1
                obtain ⟨d3, hd3⟩ : ∃ e, d2 = e := ⟨_, rfl⟩
                have HS4 := Lib.hid (show SS w g n _ d3 by rw [← hd3]; exact HS3.out)
                have HV3 := Lib.hid (show Mv mid b d2 d3 by rw [← hd3]; exact Mv.refl _ _ _)
                have HT3 := Lib.hid (show Srt cf mid b d3 by rw [← hd3]; exact HF2.out.1.1 (by omega))
                clear hd3
                have HF3 := Lib.hid (HF2.out.2 d3 HV3.out HT2.out HT3.out)
                clear HF2
                go_wp2_with fail
                all_goals
                  go_end0
                  exact ⟨rfl, d3, HS4.out, HF3.out.2, HF3.out.1⟩
  · obtain ⟨hl1, hl2⟩ := hlo2 hc
    have hci : ¬ (mid : Int) < (m : Int) := by omega
    clear hlo1 hlo2 hc
    have HL := Lib.hid (And.intro hl1 hl2)
    clear hl1 hl2
    go_enter Try.func30, Try.ntmps30
    go_wp2_with fail
    go_loopw [20, 21] (fun i j wr => ∃ x y : Nat, i = .int .i64 x ∧ j = .int .i64 y ∧ Hid (SS w g n wr d ∧ Cut cf d P lo hi x y)) (fun i j _ => (intOf j).toNat - (intOf i).toNat)
    case atStart => exact ⟨lo, hi, by rw [HL.out.1], by rw [HL.out.2], ⟨H.out, HCut.out⟩⟩
    case round =>
      obtain ⟨x, y, rfl, rfl, hS⟩ := hrel
      have hx1 : lo ≤ x := hS.out.2.h1
      have hx2 : x ≤ y := hS.out.2.h2
      have hx3 : y ≤ hi := hS.out.2.h3
      by_cases hlt : x < y
      · obtain ⟨z, hz⟩ : ∃ z, (x + y) / 2 = z := ⟨_, rfl⟩
        have hz1 : x ≤ z := by omega
        have hz2 : z < y := by omega
        have HZ := Lib.hid hz
        clear hz
        obtain ⟨w1', w2', w3', w4'⟩ := hplace.out z (by omega) (by omega)
        have c1 := hS.out.1.cell (p := P - z) (by omega)
        have c2 := hS.out.1.cell (p := z) (by omega)
        have lg := hS.out.1.blk.lt
        have nz : D d z < n := HM.out.under.at' (by rw [HLen.out]; omega)
        have na : D d (P - z) < n := HM.out.under.at' (by rw [HLen.out]; omega)
        have HCC := Lib.hid (HC.out wr.drew (hS.out.1.off.next ((Below.refl _ _).drew)) (D d (P - z)) (D d z) na nz)
        have HV := Lib.hid (HM.out.vals z (P - z) w1' w2' w3' w4')
        obtain ⟨vz, hvz⟩ : ∃ v, D d z = v := ⟨_, rfl⟩
        obtain ⟨va, hva⟩ : ∃ v, D d (P - z) = v := ⟨_, rfl⟩
        rw [hvz] at c2 HCC
        rw [hva] at c1 HCC
        have HVZ := Lib.hid hvz
        have HVA := Lib.hid hva
        clear hvz hva nz na
        have HC : AllCells wr.drew [(⟨g, P - z, none⟩, .int .i64 va), (⟨g, z, none⟩, .int .i64 vz)] := ⟨c1, c2, trivial⟩
        have q1 : (x : Int) < (y : Int) := by omega
        have z0 : (0 : Int) ≤ (z : Int) := by omega
        have z1 : (z : Int) < (n : Int) := by omega
        have a0 : (0 : Int) ≤ (P : Int) - (z : Int) := by omega
        have a1 : (P : Int) - (z : Int) < (n : Int) := by omega
        have t1 : ((P : Int) - (z : Int)).toNat = P - z := by omega
        have sb : IntKind.i64.wrap ((P : Int) - (z : Int)) = (P : Int) - (z : Int) := IntWalk.i64_in _ (by omega)
        have hsum : ((x : Int) + (y : Int)) / 2 = (z : Int) := by have := HZ.out; omega
        go_wp2_with fail
        refine region_free _ [0, 1, 2, 3, 4, 5, 6, 7, 8, 9, 10] 3 (by kernel_rfl) (by kernel_rfl) (by kernel_rfl) (by kernel_rfl) (by kernel_rfl) (fun _ _ _ _ _ h => h) HC ?_
        intro hne hu
        simp only [AllCells] at hu
        simp only [pick, List.take_succ_cons, List.take_zero, List.drop_succ_cons, List.drop_zero, List.cons_append, List.nil_append]
        repeat (go_big_quiet_step (fail))
        refine wpQuiet_nil ?_
        clear hne hu
        refine anyN_oneL 11 (by kernel_rfl) ?_
        simp only [List.take_succ_cons, List.take_zero, List.drop_succ_cons, List.drop_zero]
        go_wp2_with fail
        refine HCC.out.mono ?_
        rintro e w1 ⟨rfl, b1⟩
        have HC1 := AllCells.below HC b1
        have B1 := Lib.hid b1
        clear b1 HCC
        go_wp2_with fail
        refine And.intro (fun _ => HC1) ?_
        refine anyN_more [12, 13] 0 (by kernel_rfl) (by kernel_rfl) (by kernel_rfl) (by kernel_rfl) (fun _ _ _ _ _ h => h) HC1 ?_
        intro hne hu
        simp only [AllCells] at hu
        simp only [pick, List.take_succ_cons, List.take_zero, List.drop_succ_cons, List.drop_zero, List.cons_append, List.nil_append]
        repeat (go_big_quiet_step (fail))
        refine wpQuiet_nil ?_
        clear hne hu
        refine ⟨by kernel_rfl, ?_⟩
        clear HC HC1 c1 c2 lg
        by_cases hcf : cf va vz < 0
        · have hcb : decide (cf va vz < 0) = true := decide_eq_true hcf
          have hcb2 : decide (0 ≤ cf va vz) = false := decide_eq_false (by omega)
          simp only [hcb, hcb2, Bool.not_true]
          clear hcb hcb2
          have HNX := Lib.hid (show SS w g n w1 d ∧ Cut cf d P lo hi x z from ⟨(hS.out.1.next ((Below.refl _ wr).drew)).next B1.out, by
            have T1 : T cf (D d (P - z)) (D d z) := .inl (by rw [HVZ.out, HVA.out]; exact hcf)
            have c := hS.out.2
            rw [← HP.out, ← HMid.out] at T1
            rw [← HP.out, ← HMid.out, ← HLo.out.1, ← HLo.out.2] at c ⊢
            exact c.fewer HO.out HM.out hz1 hz2 T1⟩)
          clear hS
          go_wp2_with fail
          go_roundw
          case rel => exact ⟨x, z, rfl, rfl, HNX.out⟩
          case measure => simp [intOf]; omega
        · have hcb : decide (cf va vz < 0) = false := decide_eq_false hcf
          have hcb2 : decide (0 ≤ cf va vz) = true := decide_eq_true (by omega)
          simp only [hcb, hcb2, Bool.not_false]
          clear hcb hcb2
          have HNX := Lib.hid (show SS w g n w1 d ∧ Cut cf d P lo hi (z + 1) y from ⟨(hS.out.1.next ((Below.refl _ wr).drew)).next B1.out, by
            have T1 : T cf (D d z) (D d (P - z)) := .inr ⟨by rw [HVZ.out, HVA.out]; exact hcf, HV.out⟩
            have c := hS.out.2
            rw [← HP.out, ← HMid.out] at T1
            rw [← HP.out, ← HMid.out, ← HLo.out.1, ← HLo.out.2] at c ⊢
            exact c.more HO.out HM.out hz1 hz2 T1⟩)
          clear hS
          go_wp2_with fail
          go_roundw
          case rel => exact ⟨z + 1, y, by go_num, rfl, HNX.out⟩
          case measure => simp [intOf]; omega
      · have hxy' : x = y := by omega
        subst hxy'
        have q1 : ¬ (x : Int) < (x : Int) := by omega
        obtain ⟨E, hE⟩ : ∃ E, mid + m - x = E := ⟨_, rfl⟩
        have hc := hS.out.2
        rw [← HP.out, ← HMid.out, ← HLo.out.1, ← HLo.out.2] at hc
        have hfin := hc.fin HO.out HM.out HMid.out hE
        obtain ⟨⟨u1, u2, u3, u4, u5, u6⟩, hf⟩ := hfin
        have HF := Lib.hid hf
        have HS1 := Lib.hid hS.out.1
        have he : (mid : Int) + (m : Int) - (x : Int) = (E : Int) := by omega
        have HE := Lib.hid hE
        clear hf hc hS hE
        by_cases kA : x < m
        · by_cases kB : x < mid
          · by_cases kC : a < x
            · by_cases kD : E < b
              · have qA : (x : Int) < (m : Int) := by omega
                have qA2 : (mid : Int) < (E : Int) := by omega
                have qB : (x : Int) < (mid : Int) := by omega
                have qB2 : (m : Int) < (E : Int) := by omega
                have qC : (a : Int) < (x : Int) := by omega
                have qD : (E : Int) < (b : Int) := by omega
                have HRot := Lib.hid (rotate_c w g n cap x m E (.func (.func 17) #[] #[.pointer (some ⟨bl, 0, none⟩), .pointer (some ⟨bk, 0, none⟩)]) d wr HS1.out (by omega) (by omega) (by omega) hn)
                go_wp2_with fail
                refine HRot.out.mono ?_
                rintro e W1 ⟨rfl, d1, s1, r1⟩
                have HS2 := Lib.hid s1
                have HR1 := Lib.hid r1
                clear s1 r1 HRot
                have HF1 := Lib.hid (HF.out d1 HR1.out)
                clear HF HR1
                have HRec := Lib.hid (HR.out a x mid d1 _ (by omega) HS2.out (HF1.out.1.2 (by omega)))
                go_wp2_with fail
                refine HRec.out.mono ?_
                rintro e W2 ⟨rfl, d2, s2, v2, t2⟩
                have HS3 := Lib.hid s2
                have HV2 := Lib.hid v2
                have HT2 := Lib.hid t2
                clear s2 v2 t2 HRec
                have HF2 := Lib.hid (HF1.out.2 d2 HV2.out)
                clear HF1
                have HRec := Lib.hid (HR.out mid E b d2 _ (by omega) HS3.out (HF2.out.1.2 (by omega)))
                go_wp2_with fail
                refine HRec.out.mono ?_
                rintro e W3 ⟨rfl, d3, s3, v3, t3⟩
                have HS4 := Lib.hid s3
                have HV3 := Lib.hid v3
                have HT3 := Lib.hid t3
                clear s3 v3 t3 HRec
                have HF3 := Lib.hid (HF2.out.2 d3 HV3.out HT2.out HT3.out)
                clear HF2
                go_wp2_with fail
                all_goals
                  go_end0
                  exact ⟨rfl, d3, HS4.out, HF3.out.2, HF3.out.1⟩
              · have qA : (x : Int) < (m : Int) := by omega
                have qA2 : (mid : Int) < (E : Int) := by omega
                have qB : (x : Int) < (mid : Int) := by omega
                have qB2 : (m : Int) < (E : Int) := by omega
                have qC : (a : Int) < (x : Int) := by omega
                have qD : ¬ (E : Int) < (b : Int) := by omega
                have HRot := Lib.hid (rotate_c w g n cap x m E (.func (.func 17) #[] #[.pointer (some ⟨bl, 0, none⟩), .pointer (some ⟨bk, 0, none⟩)]) d wr HS1.out (by omega) (by omega) (by omega) hn)
                go_wp2_with fail
                refine HRot.out.mono ?_
                rintro e W1 ⟨rfl, d1, s1, r1⟩
                have HS2 := Lib.hid s1
                have HR1 := Lib.hid r1
                clear s1 r1 HRot
                have HF1 := Lib.hid (HF.out d1 HR1.out)
                clear HF HR1
                have HRec := Lib.hid (HR.out a x mid d1 _ (by omega) HS2.out (HF1.out.1.2 (by omega)))
                go_wp2_with fail
                refine HRec.out.mono ?_
                rintro e W2 ⟨rfl, d2, s2, v2, t2⟩
                have HS3 := Lib.hid s2
                have HV2 := Lib.hid v2
                have HT2 := Lib.hid t2
                clear s2 v2 t2 HRec
                have HF2 := Lib.hid (HF1.out.2 d2 HV2.out)
                clear HF1
                obtain ⟨d3, hd3⟩ : ∃ e, d2 = e := ⟨_, rfl⟩
                have HS4 := Lib.hid (show SS w g n _ d3 by rw [← hd3]; exact HS3.out)
                have HV3 := Lib.hid (show Mv mid b d2 d3 by rw [← hd3]; exact Mv.refl _ _ _)
                have HT3 := Lib.hid (show Srt cf mid b d3 by rw [← hd3]; exact HF2.out.1.1 (by omega))
                clear hd3
                have HF3 := Lib.hid (HF2.out.2 d3 HV3.out HT2.out HT3.out)
                clear HF2
                go_wp2_with fail
                all_goals
                  go_end0
                  exact ⟨rfl, d3, HS4.out, HF3.out.2, HF3.out.1⟩
            · by_cases kD : E < b
              · have qA : (x : Int) < (m : Int) := by omega
                have qA2 : (mid : Int) < (E : Int) := by omega
                have qB : (x : Int) < (mid : Int) := by omega
                have qB2 : (m : Int) < (E : Int) := by omega
                have qC : ¬ (a : Int) < (x : Int) := by omega
                have qD : (E : Int) < (b : Int) := by omega
                have HRot := Lib.hid (rotate_c w g n cap x m E (.func (.func 17) #[] #[.pointer (some ⟨bl, 0, none⟩), .pointer (some ⟨bk, 0, none⟩)]) d wr HS1.out (by omega) (by omega) (by omega) hn)
                go_wp2_with fail
                refine HRot.out.mono ?_
                rintro e W1 ⟨rfl, d1, s1, r1⟩
                have HS2 := Lib.hid s1
                have HR1 := Lib.hid r1
                clear s1 r1 HRot
                have HF1 := Lib.hid (HF.out d1 HR1.out)
                clear HF HR1
                obtain ⟨d2, hd2⟩ : ∃ e, d1 = e := ⟨_, rfl⟩
                have HS3 := Lib.hid (show SS w g n _ d2 by rw [← hd2]; exact HS2.out)
                have HV2 := Lib.hid (show Mv a mid d1 d2 by rw [← hd2]; exact Mv.refl _ _ _)
                have HT2 := Lib.hid (show Srt cf a mid d2 by rw [← hd2]; exact HF1.out.1.1 (by omega))
                clear hd2
                have HF2 := Lib.hid (HF1.out.2 d2 HV2.out)
                clear HF1
                have HRec := Lib.hid (HR.out mid E b d2 _ (by omega) HS3.out (HF2.out.1.2 (by omega)))
                go_wp2_with fail
                refine HRec.out.mono ?_
                rintro e W3 ⟨rfl, d3, s3, v3, t3⟩
                have HS4 := Lib.hid s3
                have HV3 := Lib.hid v3
                have HT3 := Lib.hid t3
                clear s3 v3 t3 HRec
                have HF3 := Lib.hid (HF2.out.2 d3 HV3.out HT2.out HT3.out)
                clear HF2
                go_wp2_with fail
                all_goals
                  go_end0
                  exact ⟨rfl, d3, HS4.out, HF3.out.2, HF3.out.1⟩
              · have qA : (x : Int) < (m : Int) := by omega
                have qA2 : (mid : Int) < (E : Int) := by omega
                have qB : (x : Int) < (mid : Int) := by omega
                have qB2 : (m : Int) < (E : Int) := by omega
                have qC : ¬ (a : Int) < (x : Int) := by omega
                have qD : ¬ (E : Int) < (b : Int) := by omega
                have HRot := Lib.hid (rotate_c w g n cap x m E (.func (.func 17) #[] #[.pointer (some ⟨bl, 0, none⟩), .pointer (some ⟨bk, 0, none⟩)]) d wr HS1.out (by omega) (by omega) (by omega) hn)
                go_wp2_with fail
                refine HRot.out.mono ?_
                rintro e W1 ⟨rfl, d1, s1, r1⟩
                have HS2 := Lib.hid s1
                have HR1 := Lib.hid r1
                clear s1 r1 HRot
                have HF1 := Lib.hid (HF.out d1 HR1.out)
                clear HF HR1
                obtain ⟨d2, hd2⟩ : ∃ e, d1 = e := ⟨_, rfl⟩
                have HS3 := Lib.hid (show SS w g n _ d2 by rw [← hd2]; exact HS2.out)
                have HV2 := Lib.hid (show Mv a mid d1 d2 by rw [← hd2]; exact Mv.refl _ _ _)
                have HT2 := Lib.hid (show Srt cf a mid d2 by rw [← hd2]; exact HF1.out.1.1 (by omega))
                clear hd2
                have HF2 := Lib.hid (HF1.out.2 d2 HV2.out)
                clear HF1
                obtain ⟨d3, hd3⟩ : ∃ e, d2 = e := ⟨_, rfl⟩
                have HS4 := Lib.hid (show SS w g n _ d3 by rw [← hd3]; exact HS3.out)
                have HV3 := Lib.hid (show Mv mid b d2 d3 by rw [← hd3]; exact Mv.refl _ _ _)
                have HT3 := Lib.hid (show Srt cf mid b d3 by rw [← hd3]; exact HF2.out.1.1 (by omega))
                clear hd3
                have HF3 := Lib.hid (HF2.out.2 d3 HV3.out HT2.out HT3.out)
                clear HF2
                go_wp2_with fail
                all_goals
                  go_end0
                  exact ⟨rfl, d3, HS4.out, HF3.out.2, HF3.out.1⟩
          · by_cases kC : a < x
            · by_cases kD : E < b
              · have qA : (x : Int) < (m : Int) := by omega
                have qA2 : (mid : Int) < (E : Int) := by omega
                have qB : ¬ (x : Int) < (mid : Int) := by omega
                have qB2 : ¬ (m : Int) < (E : Int) := by omega
                have qC : (a : Int) < (x : Int) := by omega
                have qD : (E : Int) < (b : Int) := by omega
                obtain ⟨d1, hd1⟩ : ∃ e, d = e := ⟨_, rfl⟩
                have HS2 := Lib.hid (show SS w g n wr d1 by rw [← hd1]; exact HS1.out)
                have HR1 := Lib.hid (show Rot d d1 x m E by rw [← hd1]; exact Rot.none (by omega) (by omega) (by omega))
                clear hd1
                have HF1 := Lib.hid (HF.out d1 HR1.out)
                clear HF HR1
                obtain ⟨d2, hd2⟩ : ∃ e, d1 = e := ⟨_, rfl⟩
                have HS3 := Lib.hid (show SS w g n _ d2 by rw [← hd2]; exact HS2.out)
                have HV2 := Lib.hid (show Mv a mid d1 d2 by rw [← hd2]; exact Mv.refl _ _ _)
                have HT2 := Lib.hid (show Srt cf a mid d2 by rw [← hd2]; exact HF1.out.1.1 (by omega))
                clear hd2
                have HF2 := Lib.hid (HF1.out.2 d2 HV2.out)
                clear HF1
                have HRec := Lib.hid (HR.out mid E b d2 _ (by omega) HS3.out (HF2.out.1.2 (by omega)))
                go_wp2_with fail
                refine HRec.out.mono ?_
                rintro e W3 ⟨rfl, d3, s3, v3, t3⟩
                have HS4 := Lib.hid s3
                have HV3 := Lib.hid v3
                have HT3 := Lib.hid t3
                clear s3 v3 t3 HRec
                have HF3 := Lib.hid (HF2.out.2 d3 HV3.out HT2.out HT3.out)
                clear HF2
                go_wp2_with fail
                all_goals
                  go_end0
                  exact ⟨rfl, d3, HS4.out, HF3.out.2, HF3.out.1⟩
              · have qA : (x : Int) < (m : Int) := by omega
                have qA2 : (mid : Int) < (E : Int) := by omega
                have qB : ¬ (x : Int) < (mid : Int) := by omega
                have qB2 : ¬ (m : Int) < (E : Int) := by omega
                have qC : (a : Int) < (x : Int) := by omega
                have qD : ¬ (E : Int) < (b : Int) := by omega
                obtain ⟨d1, hd1⟩ : ∃ e, d = e := ⟨_, rfl⟩
                have HS2 := Lib.hid (show SS w g n wr d1 by rw [← hd1]; exact HS1.out)
                have HR1 := Lib.hid (show Rot d d1 x m E by rw [← hd1]; exact Rot.none (by omega) (by omega) (by omega))
                clear hd1
                have HF1 := Lib.hid (HF.out d1 HR1.out)
                clear HF HR1
                obtain ⟨d2, hd2⟩ : ∃ e, d1 = e := ⟨_, rfl⟩
                have HS3 := Lib.hid (show SS w g n _ d2 by rw [← hd2]; exact HS2.out)
                have HV2 := Lib.hid (show Mv a mid d1 d2 by rw [← hd2]; exact Mv.refl _ _ _)
                have HT2 := Lib.hid (show Srt cf a mid d2 by rw [← hd2]; exact HF1.out.1.1 (by omega))
                clear hd2
                have HF2 := Lib.hid (HF1.out.2 d2 HV2.out)
                clear HF1
                obtain ⟨d3, hd3⟩ : ∃ e, d2 = e := ⟨_, rfl⟩
                have HS4 := Lib.hid (show SS w g n _ d3 by rw [← hd3]; exact HS3.out)
                have HV3 := Lib.hid (show Mv mid b d2 d3 by rw [← hd3]; exact Mv.refl _ _ _)
                have HT3 := Lib.hid (show Srt cf mid b d3 by rw [← hd3]; exact HF2.out.1.1 (by omega))
                clear hd3
                have HF3 := Lib.hid (HF2.out.2 d3 HV3.out HT2.out HT3.out)
                clear HF2
                go_wp2_with fail
                all_goals
                  go_end0
                  exact ⟨rfl, d3, HS4.out, HF3.out.2, HF3.out.1⟩
            · by_cases kD : E < b
              · have qA : (x : Int) < (m : Int) := by omega
                have qA2 : (mid : Int) < (E : Int) := by omega
                have qB : ¬ (x : Int) < (mid : Int) := by omega
                have qB2 : ¬ (m : Int) < (E : Int) := by omega
                have qC : ¬ (a : Int) < (x : Int) := by omega
                have qD : (E : Int) < (b : Int) := by omega
                obtain ⟨d1, hd1⟩ : ∃ e, d = e := ⟨_, rfl⟩
                have HS2 := Lib.hid (show SS w g n wr d1 by rw [← hd1]; exact HS1.out)
                have HR1 := Lib.hid (show Rot d d1 x m E by rw [← hd1]; exact Rot.none (by omega) (by omega) (by omega))
                clear hd1
                have HF1 := Lib.hid (HF.out d1 HR1.out)
                clear HF HR1
                obtain ⟨d2, hd2⟩ : ∃ e, d1 = e := ⟨_, rfl⟩
                have HS3 := Lib.hid (show SS w g n _ d2 by rw [← hd2]; exact HS2.out)
                have HV2 := Lib.hid (show Mv a mid d1 d2 by rw [← hd2]; exact Mv.refl _ _ _)
                have HT2 := Lib.hid (show Srt cf a mid d2 by rw [← hd2]; exact HF1.out.1.1 (by omega))
                clear hd2
                have HF2 := Lib.hid (HF1.out.2 d2 HV2.out)
                clear HF1
                have HRec := Lib.hid (HR.out mid E b d2 _ (by omega) HS3.out (HF2.out.1.2 (by omega)))
                go_wp2_with fail
                refine HRec.out.mono ?_
                rintro e W3 ⟨rfl, d3, s3, v3, t3⟩
                have HS4 := Lib.hid s3
                have HV3 := Lib.hid v3
                have HT3 := Lib.hid t3
                clear s3 v3 t3 HRec
                have HF3 := Lib.hid (HF2.out.2 d3 HV3.out HT2.out HT3.out)
                clear HF2
                go_wp2_with fail
                all_goals
                  go_end0
                  exact ⟨rfl, d3, HS4.out, HF3.out.2, HF3.out.1⟩
              · have qA : (x : Int) < (m : Int) := by omega
                have qA2 : (mid : Int) < (E : Int) := by omega
                have qB : ¬ (x : Int) < (mid : Int) := by omega
                have qB2 : ¬ (m : Int) < (E : Int) := by omega
                have qC : ¬ (a : Int) < (x : Int) := by omega
                have qD : ¬ (E : Int) < (b : Int) := by omega
                obtain ⟨d1, hd1⟩ : ∃ e, d = e := ⟨_, rfl⟩
                have HS2 := Lib.hid (show SS w g n wr d1 by rw [← hd1]; exact HS1.out)
                have HR1 := Lib.hid (show Rot d d1 x m E by rw [← hd1]; exact Rot.none (by omega) (by omega) (by omega))
                clear hd1
                have HF1 := Lib.hid (HF.out d1 HR1.out)
                clear HF HR1
                obtain ⟨d2, hd2⟩ : ∃ e, d1 = e := ⟨_, rfl⟩
                have HS3 := Lib.hid (show SS w g n _ d2 by rw [← hd2]; exact HS2.out)
                have HV2 := Lib.hid (show Mv a mid d1 d2 by rw [← hd2]; exact Mv.refl _ _ _)
                have HT2 := Lib.hid (show Srt cf a mid d2 by rw [← hd2]; exact HF1.out.1.1 (by omega))
                clear hd2
                have HF2 := Lib.hid (HF1.out.2 d2 HV2.out)
                clear HF1
                obtain ⟨d3, hd3⟩ : ∃ e, d2 = e := ⟨_, rfl⟩
                have HS4 := Lib.hid (show SS w g n _ d3 by rw [← hd3]; exact HS3.out)
                have HV3 := Lib.hid (show Mv mid b d2 d3 by rw [← hd3]; exact Mv.refl _ _ _)
                have HT3 := Lib.hid (show Srt cf mid b d3 by rw [← hd3]; exact HF2.out.1.1 (by omega))
                clear hd3
                have HF3 := Lib.hid (HF2.out.2 d3 HV3.out HT2.out HT3.out)
                clear HF2
                go_wp2_with fail
                all_goals
                  go_end0
                  exact ⟨rfl, d3, HS4.out, HF3.out.2, HF3.out.1⟩
        · by_cases kB : x < mid
          · by_cases kC : a < x
            · by_cases kD : E < b
              · have qA : ¬ (x : Int) < (m : Int) := by omega
                have qA2 : ¬ (mid : Int) < (E : Int) := by omega
                have qB : (x : Int) < (mid : Int) := by omega
                have qB2 : (m : Int) < (E : Int) := by omega
                have qC : (a : Int) < (x : Int) := by omega
                have qD : (E : Int) < (b : Int) := by omega
                obtain ⟨d1, hd1⟩ : ∃ e, d = e := ⟨_, rfl⟩
                have HS2 := Lib.hid (show SS w g n wr d1 by rw [← hd1]; exact HS1.out)
                have HR1 := Lib.hid (show Rot d d1 x m E by rw [← hd1]; exact Rot.none (by omega) (by omega) (by omega))
                clear hd1
                have HF1 := Lib.hid (HF.out d1 HR1.out)
                clear HF HR1
                have HRec := Lib.hid (HR.out a x mid d1 _ (by omega) HS2.out (HF1.out.1.2 (by omega)))
                go_wp2_with fail
                refine HRec.out.mono ?_
                rintro e W2 ⟨rfl, d2, s2, v2, t2⟩
                have HS3 := Lib.hid s2
                have HV2 := Lib.hid v2
                have HT2 := Lib.hid t2
                clear s2 v2 t2 HRec
                have HF2 := Lib.hid (HF1.out.2 d2 HV2.out)
                clear HF1
                obtain ⟨d3, hd3⟩ : ∃ e, d2 = e := ⟨_, rfl⟩
                have HS4 := Lib.hid (show SS w g n _ d3 by rw [← hd3]; exact HS3.out)
                have HV3 := Lib.hid (show Mv mid b d2 d3 by rw [← hd3]; exact Mv.refl _ _ _)
                have HT3 := Lib.hid (show Srt cf mid b d3 by rw [← hd3]; exact HF2.out.1.1 (by omega))
                clear hd3
                have HF3 := Lib.hid (HF2.out.2 d3 HV3.out HT2.out HT3.out)
                clear HF2
                go_wp2_with fail
                all_goals
                  go_end0
                  exact ⟨rfl, d3, HS4.out, HF3.out.2, HF3.out.1⟩
              · have qA : ¬ (x : Int) < (m : Int) := by omega
                have qA2 : ¬ (mid : Int) < (E : Int) := by omega
                have qB : (x : Int) < (mid : Int) := by omega
                have qB2 : (m : Int) < (E : Int) := by omega
                have qC : (a : Int) < (x : Int) := by omega
                have qD : ¬ (E : Int) < (b : Int) := by omega
                obtain ⟨d1, hd1⟩ : ∃ e, d = e := ⟨_, rfl⟩
                have HS2 := Lib.hid (show SS w g n wr d1 by rw [← hd1]; exact HS1.out)
                have HR1 := Lib.hid (show Rot d d1 x m E by rw [← hd1]; exact Rot.none (by omega) (by omega) (by omega))
                clear hd1
                have HF1 := Lib.hid (HF.out d1 HR1.out)
                clear HF HR1
                have HRec := Lib.hid (HR.out a x mid d1 _ (by omega) HS2.out (HF1.out.1.2 (by omega)))
                go_wp2_with fail
                refine HRec.out.mono ?_
                rintro e W2 ⟨rfl, d2, s2, v2, t2⟩
                have HS3 := Lib.hid s2
                have HV2 := Lib.hid v2
                have HT2 := Lib.hid t2
                clear s2 v2 t2 HRec
                have HF2 := Lib.hid (HF1.out.2 d2 HV2.out)
                clear HF1
                obtain ⟨d3, hd3⟩ : ∃ e, d2 = e := ⟨_, rfl⟩
                have HS4 := Lib.hid (show SS w g n _ d3 by rw [← hd3]; exact HS3.out)
                have HV3 := Lib.hid (show Mv mid b d2 d3 by rw [← hd3]; exact Mv.refl _ _ _)
                have HT3 := Lib.hid (show Srt cf mid b d3 by rw [← hd3]; exact HF2.out.1.1 (by omega))
                clear hd3
                have HF3 := Lib.hid (HF2.out.2 d3 HV3.out HT2.out HT3.out)
                clear HF2
                go_wp2_with fail
                all_goals
                  go_end0
                  exact ⟨rfl, d3, HS4.out, HF3.out.2, HF3.out.1⟩
            · by_cases kD : E < b
              · have qA : ¬ (x : Int) < (m : Int) := by omega
                have qA2 : ¬ (mid : Int) < (E : Int) := by omega
                have qB : (x : Int) < (mid : Int) := by omega
                have qB2 : (m : Int) < (E : Int) := by omega
                have qC : ¬ (a : Int) < (x : Int) := by omega
                have qD : (E : Int) < (b : Int) := by omega
                obtain ⟨d1, hd1⟩ : ∃ e, d = e := ⟨_, rfl⟩
                have HS2 := Lib.hid (show SS w g n wr d1 by rw [← hd1]; exact HS1.out)
                have HR1 := Lib.hid (show Rot d d1 x m E by rw [← hd1]; exact Rot.none (by omega) (by omega) (by omega))
                clear hd1
                have HF1 := Lib.hid (HF.out d1 HR1.out)
                clear HF HR1
                obtain ⟨d2, hd2⟩ : ∃ e, d1 = e := ⟨_, rfl⟩
                have HS3 := Lib.hid (show SS w g n _ d2 by rw [← hd2]; exact HS2.out)
                have HV2 := Lib.hid (show Mv a mid d1 d2 by rw [← hd2]; exact Mv.refl _ _ _)
                have HT2 := Lib.hid (show Srt cf a mid d2 by rw [← hd2]; exact HF1.out.1.1 (by omega))
                clear hd2
                have HF2 := Lib.hid (HF1.out.2 d2 HV2.out)
                clear HF1
                obtain ⟨d3, hd3⟩ : ∃ e, d2 = e := ⟨_, rfl⟩
                have HS4 := Lib.hid (show SS w g n _ d3 by rw [← hd3]; exact HS3.out)
                have HV3 := Lib.hid (show Mv mid b d2 d3 by rw [← hd3]; exact Mv.refl _ _ _)
                have HT3 := Lib.hid (show Srt cf mid b d3 by rw [← hd3]; exact HF2.out.1.1 (by omega))
                clear hd3
                have HF3 := Lib.hid (HF2.out.2 d3 HV3.out HT2.out HT3.out)
                clear HF2
                go_wp2_with fail
                all_goals
                  go_end0
                  exact ⟨rfl, d3, HS4.out, HF3.out.2, HF3.out.1⟩
              · have qA : ¬ (x : Int) < (m : Int) := by omega
                have qA2 : ¬ (mid : Int) < (E : Int) := by omega
                have qB : (x : Int) < (mid : Int) := by omega
                have qB2 : (m : Int) < (E : Int) := by omega
                have qC : ¬ (a : Int) < (x : Int) := by omega
                have qD : ¬ (E : Int) < (b : Int) := by omega
                obtain ⟨d1, hd1⟩ : ∃ e, d = e := ⟨_, rfl⟩
                have HS2 := Lib.hid (show SS w g n wr d1 by rw [← hd1]; exact HS1.out)
                have HR1 := Lib.hid (show Rot d d1 x m E by rw [← hd1]; exact Rot.none (by omega) (by omega) (by omega))
                clear hd1
                have HF1 := Lib.hid (HF.out d1 HR1.out)
                clear HF HR1
                obtain ⟨d2, hd2⟩ : ∃ e, d1 = e := ⟨_, rfl⟩
                have HS3 := Lib.hid (show SS w g n _ d2 by rw [← hd2]; exact HS2.out)
                have HV2 := Lib.hid (show Mv a mid d1 d2 by rw [← hd2]; exact Mv.refl _ _ _)
                have HT2 := Lib.hid (show Srt cf a mid d2 by rw [← hd2]; exact HF1.out.1.1 (by omega))
                clear hd2
                have HF2 := Lib.hid (HF1.out.2 d2 HV2.out)
                clear HF1
                obtain ⟨d3, hd3⟩ : ∃ e, d2 = e := ⟨_, rfl⟩
                have HS4 := Lib.hid (show SS w g n _ d3 by rw [← hd3]; exact HS3.out)
                have HV3 := Lib.hid (show Mv mid b d2 d3 by rw [← hd3]; exact Mv.refl _ _ _)
                have HT3 := Lib.hid (show Srt cf mid b d3 by rw [← hd3]; exact HF2.out.1.1 (by omega))
                clear hd3
                have HF3 := Lib.hid (HF2.out.2 d3 HV3.out HT2.out HT3.out)
                clear HF2
                go_wp2_with fail
                all_goals
                  go_end0
                  exact ⟨rfl, d3, HS4.out, HF3.out.2, HF3.out.1⟩
          · by_cases kC : a < x
            · by_cases kD : E < b
              · have qA : ¬ (x : Int) < (m : Int) := by omega
                have qA2 : ¬ (mid : Int) < (E : Int) := by omega
                have qB : ¬ (x : Int) < (mid : Int) := by omega
                have qB2 : ¬ (m : Int) < (E : Int) := by omega
                have qC : (a : Int) < (x : Int) := by omega
                have qD : (E : Int) < (b : Int) := by omega
                obtain ⟨d1, hd1⟩ : ∃ e, d = e := ⟨_, rfl⟩
                have HS2 := Lib.hid (show SS w g n wr d1 by rw [← hd1]; exact HS1.out)
                have HR1 := Lib.hid (show Rot d d1 x m E by rw [← hd1]; exact Rot.none (by omega) (by omega) (by omega))
                clear hd1
                have HF1 := Lib.hid (HF.out d1 HR1.out)
                clear HF HR1
                obtain ⟨d2, hd2⟩ : ∃ e, d1 = e := ⟨_, rfl⟩
                have HS3 := Lib.hid (show SS w g n _ d2 by rw [← hd2]; exact HS2.out)
                have HV2 := Lib.hid (show Mv a mid d1 d2 by rw [← hd2]; exact Mv.refl _ _ _)
                have HT2 := Lib.hid (show Srt cf a mid d2 by rw [← hd2]; exact HF1.out.1.1 (by omega))
                clear hd2
                have HF2 := Lib.hid (HF1.out.2 d2 HV2.out)
                clear HF1
                obtain ⟨d3, hd3⟩ : ∃ e, d2 = e := ⟨_, rfl⟩
                have HS4 := Lib.hid (show SS w g n _ d3 by rw [← hd3]; exact HS3.out)
                have HV3 := Lib.hid (show Mv mid b d2 d3 by rw [← hd3]; exact Mv.refl _ _ _)
                have HT3 := Lib.hid (show Srt cf mid b d3 by rw [← hd3]; exact HF2.out.1.1 (by omega))
                clear hd3
                have HF3 := Lib.hid (HF2.out.2 d3 HV3.out HT2.out HT3.out)
                clear HF2
                go_wp2_with fail
                all_goals
                  go_end0
                  exact ⟨rfl, d3, HS4.out, HF3.out.2, HF3.out.1⟩
              · have qA : ¬ (x : Int) < (m : Int) := by omega
                have qA2 : ¬ (mid : Int) < (E : Int) := by omega
                have qB : ¬ (x : Int) < (mid : Int) := by omega
                have qB2 : ¬ (m : Int) < (E : Int) := by omega
                have qC : (a : Int) < (x : Int) := by omega
                have qD : ¬ (E : Int) < (b : Int) := by omega
                obtain ⟨d1, hd1⟩ : ∃ e, d = e := ⟨_, rfl⟩
                have HS2 := Lib.hid (show SS w g n wr d1 by rw [← hd1]; exact HS1.out)
                have HR1 := Lib.hid (show Rot d d1 x m E by rw [← hd1]; exact Rot.none (by omega) (by omega) (by omega))
                clear hd1
                have HF1 := Lib.hid (HF.out d1 HR1.out)
                clear HF HR1
                obtain ⟨d2, hd2⟩ : ∃ e, d1 = e := ⟨_, rfl⟩
                have HS3 := Lib.hid (show SS w g n _ d2 by rw [← hd2]; exact HS2.out)
                have HV2 := Lib.hid (show Mv a mid d1 d2 by rw [← hd2]; exact Mv.refl _ _ _)
                have HT2 := Lib.hid (show Srt cf a mid d2 by rw [← hd2]; exact HF1.out.1.1 (by omega))
                clear hd2
                have HF2 := Lib.hid (HF1.out.2 d2 HV2.out)
                clear HF1
                obtain ⟨d3, hd3⟩ : ∃ e, d2 = e := ⟨_, rfl⟩
                have HS4 := Lib.hid (show SS w g n _ d3 by rw [← hd3]; exact HS3.out)
                have HV3 := Lib.hid (show Mv mid b d2 d3 by rw [← hd3]; exact Mv.refl _ _ _)
                have HT3 := Lib.hid (show Srt cf mid b d3 by rw [← hd3]; exact HF2.out.1.1 (by omega))
                clear hd3
                have HF3 := Lib.hid (HF2.out.2 d3 HV3.out HT2.out HT3.out)
                clear HF2
                go_wp2_with fail
                all_goals
                  go_end0
                  exact ⟨rfl, d3, HS4.out, HF3.out.2, HF3.out.1⟩
            · by_cases kD : E < b
              · have qA : ¬ (x : Int) < (m : Int) := by omega
                have qA2 : ¬ (mid : Int) < (E : Int) := by omega
                have qB : ¬ (x : Int) < (mid : Int) := by omega
                have qB2 : ¬ (m : Int) < (E : Int) := by omega
                have qC : ¬ (a : Int) < (x : Int) := by omega
                have qD : (E : Int) < (b : Int) := by omega
                obtain ⟨d1, hd1⟩ : ∃ e, d = e := ⟨_, rfl⟩
                have HS2 := Lib.hid (show SS w g n wr d1 by rw [← hd1]; exact HS1.out)
                have HR1 := Lib.hid (show Rot d d1 x m E by rw [← hd1]; exact Rot.none (by omega) (by omega) (by omega))
                clear hd1
                have HF1 := Lib.hid (HF.out d1 HR1.out)
                clear HF HR1
                obtain ⟨d2, hd2⟩ : ∃ e, d1 = e := ⟨_, rfl⟩
                have HS3 := Lib.hid (show SS w g n _ d2 by rw [← hd2]; exact HS2.out)
                have HV2 := Lib.hid (show Mv a mid d1 d2 by rw [← hd2]; exact Mv.refl _ _ _)
                have HT2 := Lib.hid (show Srt cf a mid d2 by rw [← hd2]; exact HF1.out.1.1 (by omega))
                clear hd2
                have HF2 := Lib.hid (HF1.out.2 d2 HV2.out)
                clear HF1
                obtain ⟨d3, hd3⟩ : ∃ e, d2 = e := ⟨_, rfl⟩
                have HS4 := Lib.hid (show SS w g n _ d3 by rw [← hd3]; exact HS3.out)
                have HV3 := Lib.hid (show Mv mid b d2 d3 by rw [← hd3]; exact Mv.refl _ _ _)
                have HT3 := Lib.hid (show Srt cf mid b d3 by rw [← hd3]; exact HF2.out.1.1 (by omega))
                clear hd3
                have HF3 := Lib.hid (HF2.out.2 d3 HV3.out HT2.out HT3.out)
                clear HF2
                go_wp2_with fail
                all_goals
                  go_end0
                  exact ⟨rfl, d3, HS4.out, HF3.out.2, HF3.out.1⟩
              · have qA : ¬ (x : Int) < (m : Int) := by omega
                have qA2 : ¬ (mid : Int) < (E : Int) := by omega
                have qB : ¬ (x : Int) < (mid : Int) := by omega
                have qB2 : ¬ (m : Int) < (E : Int) := by omega
                have qC : ¬ (a : Int) < (x : Int) := by omega
                have qD : ¬ (E : Int) < (b : Int) := by omega
                obtain ⟨d1, hd1⟩ : ∃ e, d = e := ⟨_, rfl⟩
                have HS2 := Lib.hid (show SS w g n wr d1 by rw [← hd1]; exact HS1.out)
                have HR1 := Lib.hid (show Rot d d1 x m E by rw [← hd1]; exact Rot.none (by omega) (by omega) (by omega))
                clear hd1
                have HF1 := Lib.hid (HF.out d1 HR1.out)
                clear HF HR1
                obtain ⟨d2, hd2⟩ : ∃ e, d1 = e := ⟨_, rfl⟩
                have HS3 := Lib.hid (show SS w g n _ d2 by rw [← hd2]; exact HS2.out)
                have HV2 := Lib.hid (show Mv a mid d1 d2 by rw [← hd2]; exact Mv.refl _ _ _)
                have HT2 := Lib.hid (show Srt cf a mid d2 by rw [← hd2]; exact HF1.out.1.1 (by omega))
                clear hd2
                have HF2 := Lib.hid (HF1.out.2 d2 HV2.out)
                clear HF1
                obtain ⟨d3, hd3⟩ : ∃ e, d2 = e := ⟨_, rfl⟩
                have HS4 := Lib.hid (show SS w g n _ d3 by rw [← hd3]; exact HS3.out)
                have HV3 := Lib.hid (show Mv mid b d2 d3 by rw [← hd3]; exact Mv.refl _ _ _)
                have HT3 := Lib.hid (show Srt cf mid b d3 by rw [← hd3]; exact HF2.out.1.1 (by omega))
                clear hd3
                have HF3 := Lib.hid (HF2.out.2 d3 HV3.out HT2.out HT3.out)
                clear HF2
                go_wp2_with fail
                all_goals
                  go_end0
                  exact ⟨rfl, d3, HS4.out, HF3.out.2, HF3.out.1⟩
end Go.Proofs.Ytifdpcjfjoekmaa
