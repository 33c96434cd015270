/-
  slices.symMergeCmpFunc at ints, where one piece has one thing: its contract. Condition: the slice lies in a block of its own; what compares is the closure of order.Permutation.
-/
import Derived.Test.YtifdpcjfjoekmaaA12
namespace Go.Proofs.Ytifdpcjfjoekmaa
open Go.RowKit

set_option maxRecDepth 100000 in
set_option maxHeartbeats 8000000 in
theorem sym_left (w : World) (g n cap bl bk : Nat) (cf : Nat → Nat → Int) (hC : CmpC w g n cf bl bk) (o : Ord cf n) (hn : n ≤ 1000000) (a m b : Nat) (d : List Nat) (W : World) (h : SS w g n W d) (M : Mrg cf n d a m b) (hm : m = a + 1) :
    Calls Try.prog 30 #[.slice (some ⟨g, 0, none⟩) n cap, .int .i64 a, .int .i64 m, .int .i64 b, .func (.func 17) #[] #[.pointer (some ⟨bl, 0, none⟩), .pointer (some ⟨bk, 0, none⟩)]] W (SrtP w g n cf d a b) := by
  have H := Lib.hid h
  have HC := Lib.hid hC
  have HM := Lib.hid M
  have HO := Lib.hid o
  have hmb := M.mb
  have hbn : b ≤ n := by have := M.len; rw [h.len] at this; exact this
  have HLen := Lib.hid h.len
  clear h hC M o
  have e1 : ((m : Int) - (a : Int) == 1) = true := by rw [beq_iff_eq]; omega
  have HM1 := Lib.hid hm
  have ham : a < m := by omega
  clear hm
  go_enter Try.func30, Try.ntmps30
  go_wp2_with fail
  go_loopw [10, 11] (fun i j wr => ∃ x y : Nat, i = .int .i64 x ∧ j = .int .i64 y ∧ m ≤ x ∧ x ≤ y ∧ y ≤ b ∧ Hid (SS w g n wr d ∧ (∀ q, m ≤ q → q < x → T cf (D d q) (D d a)) ∧ (∀ q, y ≤ q → q < b → T cf (D d a) (D d q)))) (fun i j _ => (intOf j).toNat - (intOf i).toNat)
  case atStart => exact ⟨m, b, rfl, rfl, Nat.le_refl _, by omega, Nat.le_refl _, ⟨H.out, fun q _ _ => by omega, fun q _ _ => by omega⟩⟩
  case round =>
    obtain ⟨x, y, rfl, rfl, hx, hxy, hy, hS⟩ := hrel
    by_cases hlt : x < y
    · obtain ⟨z, hz⟩ : ∃ z, (x + y) / 2 = z := ⟨_, rfl⟩
      have hz1 : x ≤ z := by omega
      have hz2 : z < y := by omega
      have HZ := Lib.hid hz
      clear hz
      have c1 := hS.out.1.cell (p := z) (by omega)
      have c2 := hS.out.1.cell (p := a) (by omega)
      have lg := hS.out.1.blk.lt
      have nz : D d z < n := HM.out.under.at' (by rw [HLen.out]; omega)
      have na : D d a < n := HM.out.under.at' (by rw [HLen.out]; omega)
      have HCC := Lib.hid (HC.out wr.drew (hS.out.1.off.next ((Below.refl _ _).drew)) (D d z) (D d a) nz na)
      have HV := Lib.hid (HM.out.vals a z (Nat.le_refl _) (by omega) (by omega) (by omega))
      have HNN := Lib.hid (And.intro nz na)
      obtain ⟨vz, hvz⟩ : ∃ v, D d z = v := ⟨_, rfl⟩
      obtain ⟨va, hva⟩ : ∃ v, D d a = v := ⟨_, rfl⟩
      rw [hvz] at c1 HCC
      rw [hva] at c2 HCC
      have HVZ := Lib.hid hvz
      have HVA := Lib.hid hva
      clear hvz hva nz na
      have HC : AllCells wr.drew [(⟨g, z, none⟩, .int .i64 vz), (⟨g, a, none⟩, .int .i64 va)] := ⟨c1, c2, trivial⟩
      have q1 : (x : Int) < (y : Int) := by omega
      have z0 : (0 : Int) ≤ (z : Int) := by omega
      have z1 : (z : Int) < (n : Int) := by omega
      have a0 : (0 : Int) ≤ (a : Int) := by omega
      have a1 : (a : Int) < (n : Int) := by omega
      have hsum : ((x : Int) + (y : Int)) / 2 = (z : Int) := by have := HZ.out; omega
      go_wp2_with fail
      refine region_free _ [0, 1, 2, 3, 4, 5, 6, 7, 8] 2 (by kernel_rfl) (by kernel_rfl) (by kernel_rfl) (by kernel_rfl) (by kernel_rfl) (fun _ _ _ _ _ h => h) HC ?_
      intro hne hu
      simp only [AllCells] at hu
      simp only [pick, List.take_succ_cons, List.take_zero, List.drop_succ_cons, List.drop_zero, List.cons_append, List.nil_append]
      repeat (go_big_quiet_step (fail))
      refine wpQuiet_nil ?_
      clear hne hu
      refine anyN_oneL 9 (by kernel_rfl) ?_
      simp only [List.take_succ_cons, List.take_zero, List.drop_succ_cons, List.drop_zero]
      go_wp2_with fail
      refine HCC.out.mono ?_
      rintro e w1 ⟨rfl, b1⟩
      have HC1 := AllCells.below HC b1
      have B1 := Lib.hid b1
      clear b1 HCC
      go_wp2_with fail
      refine And.intro (fun _ => HC1) ?_
      refine anyN_more [10] 0 (by kernel_rfl) (by kernel_rfl) (by kernel_rfl) (by kernel_rfl) (fun _ _ _ _ _ h => h) HC1 ?_
      intro hne hu
      simp only [AllCells] at hu
      simp only [pick, List.take_succ_cons, List.take_zero, List.drop_succ_cons, List.drop_zero, List.cons_append, List.nil_append]
      repeat (go_big_quiet_step (fail))
      refine wpQuiet_nil ?_
      clear hne hu
      refine ⟨by kernel_rfl, ?_⟩
      clear HC HC1 c1 c2 lg
      by_cases hcf : cf vz va < 0
      · have HT := Lib.hid (show T cf (D d z) (D d a) from .inl (by rw [HVZ.out, HVA.out]; exact hcf))
        have HNX := Lib.hid (show SS w g n w1 d ∧ (∀ q, m ≤ q → q < z + 1 → T cf (D d q) (D d a)) ∧ (∀ q, y ≤ q → q < b → T cf (D d a) (D d q)) from
          ⟨(hS.out.1.next ((Below.refl _ wr).drew)).next B1.out, fun q q1 q2 => T_le (o := HO.out) HM.out.under HM.out.len HM.out.right HNN.out.2 q1 (show q ≤ z by omega) (by omega) HT.out, hS.out.2.2⟩)
        clear hS HT
        go_wp2_with fail
        go_roundw
        case rel => exact ⟨z + 1, y, by go_num, rfl, by omega, by omega, hy, HNX.out⟩
        case measure => simp [intOf]; omega
      · have HT := Lib.hid (show T cf (D d a) (D d z) from .inr ⟨by rw [HVZ.out, HVA.out]; exact hcf, HV.out⟩)
        have HNX := Lib.hid (show SS w g n w1 d ∧ (∀ q, m ≤ q → q < x → T cf (D d q) (D d a)) ∧ (∀ q, z ≤ q → q < b → T cf (D d a) (D d q)) from
          ⟨(hS.out.1.next ((Below.refl _ wr).drew)).next B1.out, hS.out.2.1, fun q q1 q2 => T_ge (o := HO.out) HM.out.under HM.out.len HM.out.right HNN.out.2 (show m ≤ z by omega) q1 q2 HT.out⟩)
        clear hS HT
        go_wp2_with fail
        go_roundw
        case rel => exact ⟨x, z, rfl, rfl, hx, by omega, by omega, HNX.out⟩
        case measure => simp [intOf]; omega
    · have hxy' : x = y := by omega
      subst hxy'
      have q1 : ¬ (x : Int) < (x : Int) := by omega
      have HS := Lib.hid hS.out
      have hlen : d.length = n := HLen.out
      have hm1 := HM1.out
      have HLo := Lib.hid (show ∀ q, a < q → q ≤ x - 1 → T cf (D d q) (D d a) from fun q q1 q2 => HS.out.2.1 q (by omega) (by omega))
      have HHi := Lib.hid (show ∀ q, x - 1 < q → q < b → T cf (D d a) (D d q) from fun q q1 q2 => HS.out.2.2 q (by omega) q2)
      have HSS := Lib.hid HS.out.1
      have hx1 : a ≤ x - 1 := by omega
      have hx2 : x - 1 < b := by omega
      have hx3 : 1 ≤ x := by omega
      have HR := Lib.hid (show Srt cf (a + 1) b d by rw [← HM1.out]; exact HM.out.right)
      clear hS HS hm1 hlen
      go_wp2_with fail
      go_loopw [13] (fun i wr => ∃ k : Nat, i = .int .i64 k ∧ a ≤ k ∧ k ≤ x - 1 ∧ Hid (∃ dc, SS w g n wr dc ∧ Up d dc a k)) (fun i _ => x - (intOf i).toNat)
      case atStart => exact ⟨a, rfl, Nat.le_refl _, hx1, ⟨d, HSS.out, Up.start _ _⟩⟩
      case round =>
        obtain ⟨k, rfl, hk, hkx, hS⟩ := hrel
        by_cases hlt2 : k < x - 1
        · obtain ⟨dc, S, U⟩ := hS.out
          have c1 := S.cell (p := k) (by omega)
          have c2 := S.cell (p := k + 1) (by omega)
          have f1 := S.blk.frozen k
          have f2 := S.blk.frozen (k + 1)
          have lg := S.blk.lt
          have HNX := Lib.hid (show ∃ e, SS w g n ((wr.setCell ⟨g, k, none⟩ (.int .i64 (D dc (k + 1)))).setCell ⟨g, k + 1, none⟩ (.int .i64 (D dc k))) e ∧ Up d e a (k + 1) from ⟨_, S.swap k (k + 1), U.step hk (by rw [HLen.out]; omega)⟩)
          clear S U hS
          generalize D dc k = va at *
          generalize D dc (k + 1) = vb at *
          have HC : AllCells wr.drew [(⟨g, k, none⟩, .int .i64 va), (⟨g, k + 1, none⟩, .int .i64 vb)] := ⟨c1, c2, trivial⟩
          have q2 : (k : Int) < (x : Int) - 1 := by omega
          have k0 : (0 : Int) ≤ (k : Int) := by omega
          have k1 : (k : Int) < (n : Int) := by omega
          have k2 : (0 : Int) ≤ (k : Int) + 1 := by omega
          have k3 : (k : Int) + 1 < (n : Int) := by omega
          have t1 : ((k : Int) + 1).toNat = k + 1 := by omega
          have w1 : IntKind.i64.wrap ((k : Int) + 1) = (k : Int) + 1 := IntWalk.i64_in _ (by omega)
          go_wp2_with fail
          refine region_free [] [0, 1, 2, 3, 4, 5, 6, 7, 8, 10, 11, 12] 6 (by kernel_rfl) (by kernel_rfl) (by kernel_rfl) (by kernel_rfl) (by kernel_rfl) (fun _ _ _ _ _ h => h) trivial ?_
          intro hne hu
          simp only [AllCells] at hu
          simp only [pick, List.take_succ_cons, List.take_zero, List.drop_succ_cons, List.drop_zero, List.cons_append, List.nil_append]
          repeat (go_big_quiet_step (fail))
          refine wpQuiet_nil ?_
          clear hne hu
          refine anyN_again [(⟨g, k, none⟩, .int .i64 va), (⟨g, k + 1, none⟩, .int .i64 vb)] [9, 13] [0, 1, 2, 3, 4, 5, 6, 7, 8, 9, 10, 11, 12, 13] 4 (by kernel_rfl) (by kernel_rfl) (by kernel_rfl) (by kernel_rfl) (by kernel_rfl) (fun _ _ _ _ _ h => h) HC ?_
          intro hne hu
          simp only [AllCells] at hu
          simp only [pick, List.take_succ_cons, List.take_zero, List.drop_succ_cons, List.drop_zero, List.cons_append, List.nil_append]
          repeat (go_big_quiet_step (fail))
          refine wpQuiet_nil ?_
          clear hne hu
          refine anyN_restL 14 (by kernel_rfl) (by decide) (by kernel_rfl) ?_
          simp only [List.take_succ_cons, List.take_zero, List.drop_succ_cons, List.drop_zero]
          go_wp2_with fail
          clear HC
          go_wp2_with fail
          go_roundw
          case rel =>
            refine ⟨k + 1, by go_num, by omega, by omega, ?_⟩
            obtain ⟨e, S', U'⟩ := HNX.out
            exact ⟨e, S'.next ((Below.refl _ _).drew), U'⟩
          case measure => simp [intOf]; omega
        · have hkk : k = x - 1 := by omega
          have q2 : ¬ (k : Int) < (x : Int) - 1 := by omega
          go_wp2_with fail
          refine bodyPost_none rfl rfl ?_
          obtain ⟨dc, S, U⟩ := hS.out
          rw [hkk] at U
          exact ⟨rfl, dc, S, U.mv hx1 hx2, U.done HO.out HM.out.under HM.out.len hx1 hx2 HR.out HLo.out HHi.out⟩
end Go.Proofs.Ytifdpcjfjoekmaa
