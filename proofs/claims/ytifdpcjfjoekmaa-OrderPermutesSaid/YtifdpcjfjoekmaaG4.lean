/-
  counterpanelaw30.OrderPermutes: its contract. Condition: the rows and keys can be read, the rows' ints fit 64 bits.
-/
import Derived.Test.YtifdpcjfjoekmaaG3
namespace Go.Proofs.Ytifdpcjfjoekmaa
open Go.RowKit

set_option maxRecDepth 100000 in
set_option maxHeartbeats 2000000 in
theorem permutes_c (A K : Option Addr) (n ca q ck : Nat) (rs : List RowD) (ks : List KeyD) (w : World) (hA : RowsW w A rs) (hK : ManyR keyCells 2 w K ks) (hn : rs.length = n) (hq : ks.length = q) (hm : n ≤ 9223372036854775807) (hm2 : q ≤ 9223372036854775807) :
    Calls Try.prog 3 #[.slice A n ca, .slice K q ck] w (IsTrue w) := by
  have HA := Lib.hid hA
  have HN := Lib.hid hn
  have HK := Lib.hid hK
  have HQ := Lib.hid hq
  clear hA hn hK hq
  go_enter Try.func3, Try.ntmps3
  go_wp2_with fail
  refine (awake_c w).mono ?_
  rintro e w1 ⟨rfl, b1⟩
  have HB1 := Lib.hid b1
  clear b1
  go_wp2_with fail
  refine (great_c A n ca rs w1 (HA.out.next HB1.out) HN.out hm).mono ?_
  rintro e w2 ⟨gr, rfl, hgr, bb⟩
  have HB2 := Lib.hid (HB1.out.trans (bb.mono HB1.out.size))
  have HGR := Lib.hid hgr
  clear bb HB1 hgr
  cases gr
  case true =>
    go_wp2_with fail
    go_ret
    exact ⟨rfl, HB2.out⟩
  have HROk := Lib.hid (HGR.out (by first | trivial | rfl))
  have hn60 : n ≤ 60 := by have := HROk.out.2; rw [HN.out] at this; exact this
  have HRows : Hid (∀ W, Below w.heap.size w W → RowsR W A rs) := Lib.hid (fun W hW => by
    have h := HA.out.next hW
    exact ⟨h.top, h.row, fun r hr => ⟨(h.len r hr).1, Nat.le_trans (HROk.out.1 r hr).2 (by decide)⟩⟩)
  clear HGR hm
  by_cases hq20 : q ≤ 20
  case neg =>
    have hqb : decide ((20 : Int) < (q : Int)) = true := decide_eq_true (by omega)
    clear hq20
    go_wp2_with fail
    go_ret
    exact ⟨rfl, HB2.out⟩
  have hqb : decide ((20 : Int) < (q : Int)) = false := decide_eq_false (by omega)
  go_wp2_with fail
  refine (keys_c K q ck ks w2 (HK.out.next HB2.out) HQ.out hq20).mono ?_
  rintro e w3 ⟨K3, c3, rfl, bb, k3⟩
  rw [HQ.out]
  have HB3 := Lib.hid (HB2.out.trans (bb.mono HB2.out.size))
  have HK3 := Lib.hid k3
  clear bb k3 HB2
  go_wp2_with fail
  refine (perm_c A K3 n ca q c3 rs ks w3 (HRows.out _ HB3.out) HK3.out HN.out HQ.out hn60 (by omega) (fun r hr => (HROk.out.1 r hr).1)).mono ?_
  rintro e w4 ⟨gp, d, cp, rfl, _, bb, kp, sp⟩
  have HB4 := Lib.hid (HB3.out.trans (bb.mono HB3.out.size))
  have P4 := Lib.hid kp
  have SP := Lib.hid sp
  clear bb kp sp HB3 HK3
  have HOrd := Lib.hid (ord_of (pre_cmpK ks) (fun i => rowAt rs i) n)
  go_wp2_with fail
  refine (rperm_c A K n ca q ck rs ks w4 (HRows.out _ HB4.out) (HK.out.next HB4.out) HN.out HQ.out hn60 (by omega) (fun r hr => (HROk.out.1 r hr).1)).mono ?_
  rintro e w5 ⟨v5, d5, rfl, bb, i5, s5⟩
  obtain rfl : d5 = d := Sorted.unique HOrd.out s5 SP.out
  have HB5 := Lib.hid (HB4.out.trans (bb.mono HB4.out.size))
  have P5 := Lib.hid (P4.out.kept (bb.block _ P4.out.lt))
  have I5 := Lib.hid i5
  obtain ⟨A5, n5, c5, rfl, hn5, _, _, _, hR5⟩ := i5
  have hn5' : n5 = n := by rw [hn5, s5.length]
  subst hn5'
  have HR5 := Lib.hid hR5
  have HL5 := Lib.hid s5.length
  clear bb hn5 hR5 s5 HB4 P4
  have hnn : ((n5 : Int) != (n5 : Int)) = false := by simp
  go_wp2_with fail
  go_loopw [7] (fun iv wr => ∃ i : Nat, i ≤ n5 ∧ iv = .int .i64 i ∧ Hid (Below w5.heap.size w5 wr)) (fun iv _ => n5 - (intOf iv).toNat)
  case atStart => exact ⟨0, Nat.zero_le _, rfl, Below.refl _ _⟩
  case round =>
    obtain ⟨i, hi, rfl, hb⟩ := hrel
    by_cases hlt : i < n5
    · have Pw := Lib.hid (P5.out.kept (hb.out.block _ P5.out.lt))
      have p0 := natA_ints Pw.out HL5.out hlt
      obtain ⟨b, off, rfl, _, hc⟩ := (HR5.out.next hb.out) (fun e => by have := HL5.out; rw [e] at this; simp at this; omega)
      have q0 := hc i (D d5 i) (D_get (by rw [HL5.out]; exact hlt))
      obtain ⟨y, hy⟩ : ∃ y, D d5 i = y := ⟨_, rfl⟩
      rw [hy] at p0 q0
      have hyy : ((y : Int) != (y : Int)) = false := by simp
      have hi0 : (0 : Int) ≤ (i : Int) := by omega
      have hin : (i : Int) < (n5 : Int) := by omega
      have wi : IntKind.i64.wrap ((i : Int) + 1) = (i : Int) + 1 := IntWalk.i64_in _ (by omega)
      have HC : AllCells wr.drew [(⟨gp, i, none⟩, .int .i64 (y : Int)), (⟨b, off + i, none⟩, .int .i64 (y : Int))] := ⟨p0, q0, trivial⟩
      clear hy p0 q0 hc
      go_wp2_with fail
      refine region_free _ [0, 1, 2, 3, 4, 5, 6, 7, 8] 0 (by kernel_rfl) (by kernel_rfl) (by kernel_rfl) (by kernel_rfl) (by kernel_rfl) (fun _ _ _ _ _ h => h) HC ?_
      intro hne hu
      simp only [AllCells] at hu
      simp only [pick, List.take_succ_cons, List.take_zero, List.drop_succ_cons, List.drop_zero, List.cons_append, List.nil_append]
      repeat (go_big_quiet_step (fail))
      refine wpQuiet_nil ?_
      clear hne hu
      refine ⟨by kernel_rfl, ?_⟩
      clear HC
      go_wp2_with fail
      exact ⟨⟨i + 1, by omega, by go_num, Lib.hid hb.out.drew⟩, by simp [intOf] <;> omega⟩
    · obtain rfl : i = n5 := by omega
      have hjj : decide ((i : Int) < (i : Int)) = false := decide_eq_false (by omega)
      go_wp2_with fail
      go_ret
      exact ⟨rfl, HB5.out.trans (hb.out.mono HB5.out.size)⟩
end Go.Proofs.Ytifdpcjfjoekmaa
