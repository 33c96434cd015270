/-
  slices.symMergeCmpFunc at ints: its contract. Condition: the slice lies in a block of its own; what compares is the closure of order.Permutation.
-/
import Derived.Test.YtifdpcjfjoekmaaA13
namespace Go.Proofs.Ytifdpcjfjoekmaa
open Go.RowKit

set_option maxRecDepth 100000 in
set_option maxHeartbeats 8000000 in
theorem sym_right (w : World) (g n cap bl bk : Nat) (cf : Nat → Nat → Int) (hC : CmpC w g n cf bl bk) (o : Ord cf n) (hn : n ≤ 1000000) (a m b : Nat) (d : List Nat) (W : World) (h : SS w g n W d) (M : Mrg cf n d a m b) (hm : m ≠ a + 1) (hb : b = m + 1) :
    Calls Try.prog 30 #[.slice (some ⟨g, 0, none⟩) n cap, .int .i64 a, .int .i64 m, .int .i64 b, .func (.func 17) #[] #[.pointer (some ⟨bl, 0, none⟩), .pointer (some ⟨bk, 0, none⟩)]] W (SrtP w g n cf d a b) := by
  have H := Lib.hid h
  have HC := Lib.hid hC
  have HM := Lib.hid M
  have HO := Lib.hid o
  have ham := M.am
  have hbn : b ≤ n := by have := M.len; rw [h.len] at this; exact this
  have HLen := Lib.hid h.len
  clear h hC M o
  have e1 : ((m : Int) - (a : Int) == 1) = false := by rw [beq_eq_false_iff_ne]; omega
  have e2 : ((b : Int) - (m : Int) == 1) = true := by rw [beq_iff_eq]; omega
  have HM1 := Lib.hid hb
  have hmb : m < b := by omega
  clear hb hm
  go_enter Try.func30, Try.ntmps30
  go_wp2_with fail
  go_loopw [14, 15] (fun i j wr => ∃ x y : Nat, i = .int .i64 x ∧ j = .int .i64 y ∧ a ≤ x ∧ x ≤ y ∧ y ≤ m ∧ Hid (SS w g n wr d ∧ (∀ q, a ≤ q → q < x → T cf (D d q) (D d m)) ∧ (∀ q, y ≤ q → q < m → T cf (D d m) (D d q)))) (fun i j _ => (intOf j).toNat - (intOf i).toNat)
  case atStart => exact ⟨a, m, rfl, rfl, Nat.le_refl _, by omega, Nat.le_refl _, ⟨H.out, fun q _ _ => by omega, fun q _ _ => by omega⟩⟩
  case round =>
    obtain ⟨x, y, rfl, rfl, hx, hxy, hy, hS⟩ := hrel
    by_cases hlt : x < y
    · obtain ⟨z, hz⟩ : ∃ z, (x + y) / 2 = z := ⟨_, rfl⟩
      have hz1 : x ≤ z := by omega
      have hz2 : z < y := by omega
      have HZ := Lib.hid hz
      clear hz
      have c1 := hS.out.1.cell (p := m) (by omega)
      have c2 := hS.out.1.cell (p := z) (by omega)
      have lg := hS.out.1.blk.lt
      have nz : D d z < n := HM.out.under.at' (by rw [HLen.out]; omega)
      have na : D d m < n := HM.out.under.at' (by rw [HLen.out]; omega)
      have HCC := Lib.hid (HC.out wr.drew (hS.out.1.off.next ((Below.refl _ _).drew)) (D d m) (D d z) na nz)
      have HV := Lib.hid (HM.out.vals z m (by omega) (by omega) (Nat.le_refl _) hmb)
      have HNN := Lib.hid (And.intro nz na)
      obtain ⟨vz, hvz⟩ : ∃ v, D d z = v := ⟨_, rfl⟩
      obtain ⟨va, hva⟩ : ∃ v, D d m = v := ⟨_, rfl⟩
      rw [hvz] at c2 HCC
      rw [hva] at c1 HCC
      have HVZ := Lib.hid hvz
      have HVA := Lib.hid hva
      clear hvz hva nz na
      have HC : AllCells wr.drew [(⟨g, m, none⟩, .int .i64 va), (⟨g, z, none⟩, .int .i64 vz)] := ⟨c1, c2, trivial⟩
      have q1 : (x : Int) < (y : Int) := by omega
      have z0 : (0 : Int) ≤ (z : Int) := by omega
      have z1 : (z : Int) < (n : Int) := by omega
      have a0 : (0 : Int) ≤ (m : Int) := by omega
      have a1 : (m : Int) < (n : Int) := by omega
      have hsum : ((x : Int) + (y : Int)) / 2 = (z : Int) := by have := HZ.out; omega
      go_wp2_with fail
      refine region_free _ [0, 1, 2, 3, 4, 5, 6, 7, 8] 3 (by kernel_rfl) (by kernel_rfl) (by kernel_rfl) (by kernel_rfl) (by kernel_rfl) (fun _ _ _ _ _ h => h) HC ?_
      intro hne hu
      simp only [AllCells] at hu
      simp only [pick, List.take_succ_cons, List.take_zero, List.drop_succ_cons, List.drop_zero, List.cons_append, List.nil_append]
      repeat (go_big_quiet_step (fail))
      refine wpQuiet_nil ?_
      clear hne hu
      refine anyN_oneL 9 (by kernel_rfl) ?_
      simp only [List.take_succ_cons, List.take_zero, List.drop_succ_cons, List.drop_zero]
      go_wp2_with fail
      refine HCC.out.mono ?_
      rintro e w1 ⟨rfl, b1⟩
      have HC1 := AllCells.below HC b1
      have B1 := Lib.hid b1
      clear b1 HCC
      go_wp2_with fail
      refine And.intro (fun _ => HC1) ?_
      refine anyN_more [10, 11] 0 (by kernel_rfl) (by kernel_rfl) (by kernel_rfl) (by kernel_rfl) (fun _ _ _ _ _ h => h) HC1 ?_
      intro hne hu
      simp only [AllCells] at hu
      simp only [pick, List.take_succ_cons, List.take_zero, List.drop_succ_cons, List.drop_zero, List.cons_append, List.nil_append]
      repeat (go_big_quiet_step (fail))
      refine wpQuiet_nil ?_
      clear hne hu
      refine ⟨by kernel_rfl, ?_⟩
      clear HC HC1 c1 c2 lg
      by_cases hcf : cf va vz < 0
      · have hcb : decide (cf va vz < 0) = true := decide_eq_true hcf
        have hcb2 : decide (0 ≤ cf va vz) = false := decide_eq_false (by omega)
        simp only [hcb, hcb2, Bool.not_true]
        clear hcb hcb2
        have HT := Lib.hid (show T cf (D d m) (D d z) from .inl (by rw [HVZ.out, HVA.out]; exact hcf))
        have HNX := Lib.hid (show SS w g n w1 d ∧ (∀ q, a ≤ q → q < x → T cf (D d q) (D d m)) ∧ (∀ q, z ≤ q → q < m → T cf (D d m) (D d q)) from
          ⟨(hS.out.1.next ((Below.refl _ wr).drew)).next B1.out, hS.out.2.1, fun q q1 q2 => T_ge (o := HO.out) HM.out.under (by rw [HLen.out]; omega) HM.out.left HNN.out.2 (show a ≤ z by omega) q1 q2 HT.out⟩)
        clear hS HT
        go_wp2_with fail
        go_roundw
        case rel => exact ⟨x, z, rfl, rfl, hx, by omega, by omega, HNX.out⟩
        case measure => simp [intOf]; omega
      · have hcb : decide (cf va vz < 0) = false := decide_eq_false hcf
        have hcb2 : decide (0 ≤ cf va vz) = true := decide_eq_true (by omega)
        simp only [hcb, hcb2, Bool.not_false]
        clear hcb hcb2
        have HT := Lib.hid (show T cf (D d z) (D d m) from .inr ⟨by rw [HVZ.out, HVA.out]; exact hcf, HV.out⟩)
        have HNX := Lib.hid (show SS w g n w1 d ∧ (∀ q, a ≤ q → q < z + 1 → T cf (D d q) (D d m)) ∧ (∀ q, y ≤ q → q < m → T cf (D d m) (D d q)) from
          ⟨(hS.out.1.next ((Below.refl _ wr).drew)).next B1.out, fun q q1 q2 => T_le (o := HO.out) HM.out.under (by rw [HLen.out]; omega) HM.out.left HNN.out.2 q1 (show q ≤ z by omega) (by omega) HT.out, hS.out.2.2⟩)
        clear hS HT
        go_wp2_with fail
        go_roundw
        case rel => exact ⟨z + 1, y, by go_num, rfl, by omega, by omega, hy, HNX.out⟩
        case measure => simp [intOf]; omega
    · have hxy' : x = y := by omega
      subst hxy'
      have q1 : ¬ (x : Int) < (x : Int) := by omega
      have HS := Lib.hid hS.out
      have HSS := Lib.hid HS.out.1
      have HLow := Lib.hid (show x = a ∨ T cf (D d (x - 1)) (D d m) from by
        by_cases e : x = a
        · exact .inl e
        · exact .inr (HS.out.2.1 (x - 1) (by omega) (by omega)))
      clear hS
      go_wp2_with fail
      go_loopw [17] (fun i wr => ∃ k : Nat, i = .int .i64 k ∧ x ≤ k ∧ k ≤ m ∧ Hid (∃ dc, SS w g n wr dc ∧ Ins d dc m k)) (fun i _ => (intOf i).toNat)
      case atStart => exact ⟨m, rfl, hy, Nat.le_refl _, ⟨d, HSS.out, Ins.start _ _⟩⟩
      case round =>
        obtain ⟨k, rfl, hk, hkx, hS⟩ := hrel
        by_cases hlt2 : x < k
        · obtain ⟨dc, S, U⟩ := hS.out
          have c1 := S.cell (p := k) (by omega)
          have c2 := S.cell (p := k - 1) (by omega)
          have f1 := S.blk.frozen k
          have f2 := S.blk.frozen (k - 1)
          have lg := S.blk.lt
          have HNX := Lib.hid (show ∃ e, SS w g n ((wr.setCell ⟨g, k, none⟩ (.int .i64 (D dc (k - 1)))).setCell ⟨g, k - 1, none⟩ (.int .i64 (D dc k))) e ∧ Ins d e m (k - 1) from ⟨_, S.swap k (k - 1), U.step (by omega) hkx (by rw [HLen.out]; omega)⟩)
          clear S U hS
          generalize D dc k = va at *
          generalize D dc (k - 1) = vb at *
          have HC : AllCells wr.drew [(⟨g, k, none⟩, .int .i64 va), (⟨g, k - 1, none⟩, .int .i64 vb)] := ⟨c1, c2, trivial⟩
          have q2 : (x : Int) < (k : Int) := by omega
          have k0 : (0 : Int) ≤ (k : Int) := by omega
          have k1 : (k : Int) < (n : Int) := by omega
          have k2 : (0 : Int) ≤ (k : Int) - 1 := by omega
          have k3 : (k : Int) - 1 < (n : Int) := by omega
          have t1 : ((k : Int) - 1).toNat = k - 1 := by omega
          have HK := Lib.hid (show (k : Int) - 1 = ((k - 1 : Nat) : Int) by omega)
          have w1 : IntKind.i64.wrap ((k : Int) - 1) = (k : Int) - 1 := IntWalk.i64_in _ (by omega)
          go_wp2_with fail
          refine region_free [] [0, 1, 2, 3, 4, 5, 6, 7, 8, 10, 11, 12] 6 (by kernel_rfl) (by kernel_rfl) (by kernel_rfl) (by kernel_rfl) (by kernel_rfl) (fun _ _ _ _ _ h => h) trivial ?_
          intro hne hu
          simp only [AllCells] at hu
          simp only [pick, List.take_succ_cons, List.take_zero, List.drop_succ_cons, List.drop_zero, List.cons_append, List.nil_append]
          repeat (go_big_quiet_step (fail))
          refine wpQuiet_nil ?_
          clear hne hu
          refine anyN_again [(⟨g, k, none⟩, .int .i64 va), (⟨g, k - 1, none⟩, .int .i64 vb)] [9, 13] [0, 1, 2, 3, 4, 5, 6, 7, 8, 9, 10, 11, 12, 13] 4 (by kernel_rfl) (by kernel_rfl) (by kernel_rfl) (by kernel_rfl) (by kernel_rfl) (fun _ _ _ _ _ h => h) HC ?_
          intro hne hu
          simp only [AllCells] at hu
          simp only [pick, List.take_succ_cons, List.take_zero, List.drop_succ_cons, List.drop_zero, List.cons_append, List.nil_append]
          repeat (go_big_quiet_step (fail))
          refine wpQuiet_nil ?_
          clear hne hu
          refine anyN_restL 14 (by kernel_rfl) (by decide) (by kernel_rfl) ?_
          simp only [List.take_succ_cons, List.take_zero, List.drop_succ_cons, List.drop_zero]
          go_wp2_with fail
          clear HC
          go_wp2_with fail
          go_roundw
          case rel =>
            refine ⟨k - 1, by rw [HK.out], by omega, by omega, ?_⟩
            obtain ⟨e, S', U'⟩ := HNX.out
            exact ⟨e, S'.next ((Below.refl _ _).drew), U'⟩
          case measure => simp [intOf]; omega
        · have hkk : k = x := by omega
          subst hkk
          have q2 : ¬ (k : Int) < (k : Int) := by omega
          go_wp2_with fail
          refine bodyPost_none rfl rfl ?_
          obtain ⟨dc, S, U⟩ := hS.out
          have e := HM1.out
          rw [e]
          exact ⟨rfl, dc, S, U.mv hx hy, U.done HO.out HM.out.under (by rw [HLen.out]; omega) hx hy HM.out.left HS.out.2.2 HLow.out⟩
end Go.Proofs.Ytifdpcjfjoekmaa
