/-
  counterpanelaw30.OrderDown: its contract. Condition: the rows can be read, their ints fit 64 bits.
-/
import Derived.Test.YtifdpcjfjoekmaaC10
import Derived.Test.YtifdpcjfjoekmaaD1
import Derived.Test.YtifdpcjfjoekmaaB11
namespace Go.Proofs.Ytifdpcjfjoekmaa
open Go.RowKit

theorem natA_ints {W : World} {g n : Nat} {d : List Nat} (h : Blk W g 3 (natA d)) (hl : d.length = n) {i : Nat} (hi : i < n) : W.cell? ⟨g, i, none⟩ = some (.int .i64 (D d i : Int)) := by
  rw [h.cell]
  have : i < d.length := by omega
  simp [natA, D_get this]
theorem RowsR.get {w : World} {A : Option Addr} {rs : List RowD} (h : RowsR w A rs) {i : Nat} (hi : i < rs.length) : ∃ b off, A = some ⟨b, off, none⟩ ∧ w.cell? ⟨b, off + i, none⟩ = some (.slice rs[i].A rs[i].n rs[i].c) := by
  obtain ⟨b, off, hA, _, hc⟩ := h.top (fun e => by rw [e] at hi; simp at hi)
  refine ⟨b, off, hA, ?_⟩
  have g := hc i hi 0 _ rfl
  simpa only [Nat.add_zero, Nat.mul_one] using g
theorem manyR_get6 {w : World} {A : Option Addr} {l : List Val} (h : ManyR Val.cs 6 w A l) {c : Nat} (hc : c < l.length) : ∃ b off, A = some ⟨b, off, none⟩ ∧ w.cell? ⟨b, off + c * 6, none⟩ = some (.int .i64 l[c].kind) ∧ w.cell? ⟨b, off + c * 6 + 1, none⟩ = some (.int .i64 l[c].mant) ∧ w.cell? ⟨b, off + c * 6 + 2, none⟩ = some (.int .i64 l[c].exp) ∧
    w.cell? ⟨b, off + c * 6 + 3, none⟩ = some (.string l[c].text) ∧ w.cell? ⟨b, off + c * 6 + 4, none⟩ = some (.bool l[c].truth) ∧ w.cell? ⟨b, off + c * 6 + 5, none⟩ = some (.int .i64 l[c].fault) := by
  obtain ⟨b, off, hA, _, hg⟩ := h (fun e => by rw [e] at hc; simp at hc)
  have g := hg c hc
  exact ⟨b, off, hA, g 0 _ rfl, g 1 _ rfl, g 2 _ rfl, g 3 _ rfl, g 4 _ rfl, g 5 _ rfl⟩
theorem rowAt_get {rs : List RowD} {i : Nat} (hi : i < rs.length) : rowAt rs i = rs[i].l := by
  unfold rowAt
  simp [List.getD, hi]
theorem atV_get {l : List Val} {c : Nat} (hc : c < l.length) : atV l (c : Int) = l[c] := by
  unfold atV
  rw [if_neg (by omega)]
  simp [List.getD, hc]
def IsTrue (w : World) (e : Ending) (w' : World) : Prop := e = .returned (.bool true) ∧ Below w.heap.size w w'
set_option maxRecDepth 100000 in
set_option maxHeartbeats 1000000 in
theorem down_c (A : Option Addr) (n ca : Nat) (rs : List RowD) (co : Nat) (w : World) (hA : RowsW w A rs) (hn : rs.length = n) (hm : n ≤ 9223372036854775807) (hco : co ≤ 255) :
    Calls Try.prog 6 #[.slice A n ca, .int .u8 (co : Int)] w (IsTrue w) := by
  have HA := Lib.hid hA
  have HN := Lib.hid hn
  clear hA hn
  go_enter Try.func6, Try.ntmps6
  go_wp2_with fail
  refine (awake_c w).mono ?_
  rintro e w1 ⟨rfl, b1⟩
  have HB1 := Lib.hid b1
  clear b1
  go_wp2_with fail
  refine (great_c A n ca rs w1 (HA.out.next HB1.out) HN.out hm).mono ?_
  rintro e w2 ⟨gr, rfl, hgr, bb⟩
  have HB2 := Lib.hid (HB1.out.trans (bb.mono HB1.out.size))
  have HGR := Lib.hid hgr
  clear bb HB1 hgr
  cases gr
  case true =>
    go_wp2_with fail
    go_ret
    exact ⟨rfl, HB2.out⟩
  have HROk := Lib.hid (HGR.out (by first | trivial | rfl))
  have hn60 : n ≤ 60 := by have := HROk.out.2; rw [HN.out] at this; exact this
  have HRows : Hid (∀ W, Below w.heap.size w W → RowsR W A rs) := Lib.hid (fun W hW => by
    have h := HA.out.next hW
    exact ⟨h.top, h.row, fun r hr => ⟨(h.len r hr).1, Nat.le_trans (HROk.out.1 r hr).2 (by decide)⟩⟩)
  clear HGR hm
  obtain ⟨c, hc⟩ : ∃ c : Nat, co % 10 = c := ⟨_, rfl⟩
  have hc9 : c ≤ 9 := by omega
  have hcc : (co : Int) % 10 = (c : Int) := by omega
  clear hc
  go_wp2_with fail
  simp only [hcc]
  clear hcc
  have HK1 := Lib.hid (ManyR.one (f := keyCells) (k := 2) (z := ⟨(c : Int), false⟩) (Blk.new w2 37 (keyCells ⟨(c : Int), false⟩).toArray))
  have b1 : Below w2.heap.size w2 (w2.alloc (.cells #[.int .i64 (c : Int), .bool false] 37)) := (Below.refl _ _).alloc (Nat.le_refl _) _
  have HB3 := Lib.hid (HB2.out.trans (b1.mono HB2.out.size))
  clear b1
  refine (perm_c A (some ⟨w2.heap.size, 0, none⟩) n ca 1 1 rs [⟨(c : Int), false⟩] _ (HRows.out _ HB3.out) HK1.out HN.out rfl hn60 (by omega) (fun r hr => (HROk.out.1 r hr).1)).mono ?_
  rintro e w3 ⟨g1, d1, c1, rfl, _, bb, k1, s1⟩
  have HB4 := Lib.hid (HB3.out.trans (bb.mono HB3.out.size))
  have P1 := Lib.hid k1
  have S1 := Lib.hid s1
  clear bb k1 s1 HB3 HK1 HB2
  go_wp2_with fail
  have HK1 := Lib.hid (ManyR.one (f := keyCells) (k := 2) (z := ⟨(c : Int), true⟩) (Blk.new w3 37 (keyCells ⟨(c : Int), true⟩).toArray))
  have b1 : Below w3.heap.size w3 (w3.alloc (.cells #[.int .i64 (c : Int), .bool true] 37)) := (Below.refl _ _).alloc (Nat.le_refl _) _
  have HB5 := Lib.hid (HB4.out.trans (b1.mono HB4.out.size))
  have P2 := Lib.hid (P1.out.kept (b1.block _ P1.out.lt))
  clear b1
  refine (perm_c A (some ⟨w3.heap.size, 0, none⟩) n ca 1 1 rs [⟨(c : Int), true⟩] _ (HRows.out _ HB5.out) HK1.out HN.out rfl hn60 (by omega) (fun r hr => (HROk.out.1 r hr).1)).mono ?_
  rintro e w4 ⟨g2, d2, c2, rfl, _, bb, k2, s2⟩
  have HB6 := Lib.hid (HB5.out.trans (bb.mono HB5.out.size))
  have P3 := Lib.hid (P2.out.kept (bb.block _ P2.out.lt))
  have Q3 := Lib.hid k2
  have S2 := Lib.hid s2
  clear bb k2 s2 HB5 HK1 HB4 P1 P2
  have hnn : ((n : Int) != (n : Int)) = false := by simp
  go_wp2_with fail
  go_loopw [8] (fun iv wr => ∃ i : Nat, i ≤ n ∧ iv = .int .i64 i ∧ Hid (∀ k, k < i → c < (rowAt rs k).length ∧ (atV (rowAt rs k) (c : Int)).kind ≠ 0) ∧ Hid (∀ a b, b < a → a < i → valOrd (atV (rowAt rs a) (c : Int)) (atV (rowAt rs b) (c : Int)) ≠ 0) ∧ Hid (Below w4.heap.size w4 wr)) (fun iv _ => n - (intOf iv).toNat)
  case atStart => exact ⟨0, Nat.zero_le _, rfl, Lib.hid (fun k h => by omega), Lib.hid (fun a b _ h => by omega), Lib.hid (Below.refl _ _)⟩
  case round =>
    obtain ⟨i, hi, rfl, hK, hV, hb⟩ := hrel
    by_cases hlt : i < n
    · have hil : i < rs.length := by rw [HN.out]; exact hlt
      have HR1 := Lib.hid (HRows.out wr (HB6.out.trans (hb.out.mono HB6.out.size)))
      obtain ⟨bA, oA, rfl, g0⟩ := HR1.out.get hil
      have hro := Lib.hid (rowAt_get hil)
      have hmem := Lib.hid (List.getElem_mem hil)
      obtain ⟨r, hr⟩ : ∃ r, rs[i] = r := ⟨_, rfl⟩
      have HGi := Lib.hid hr
      rw [hr] at g0 hro hmem
      clear hr
      have HRow := Lib.hid (fun W hW => (HRows.out W hW).row r hmem.out)
      have HL := Lib.hid (HR1.out.len r hmem.out)
      have HOk := Lib.hid (HROk.out.1 r hmem.out).1
      obtain ⟨B, q, cb, l⟩ := r
      dsimp only at HRow HL HOk hro g0
      have hi0 : (0 : Int) ≤ (i : Int) := by omega
      have hin : (i : Int) < (n : Int) := by omega
      have wi : IntKind.i64.wrap ((i : Int) + 1) = (i : Int) + 1 := IntWalk.i64_in _ (by omega)
      by_cases hq : q ≤ c
      · have hqb : decide ((q : Int) ≤ (c : Int)) = true := decide_eq_true (by omega)
        go_wp2_with fail
        go_ret
        exact ⟨rfl, HB6.out.trans (hb.out.mono HB6.out.size)⟩
      · have hqb : decide ((q : Int) ≤ (c : Int)) = false := decide_eq_false (by omega)
        have hcl : c < l.length := by have := HL.out.1; omega
        have hcq : (c : Int) < (q : Int) := by omega
        have hc0 : (0 : Int) ≤ (c : Int) := by omega
        obtain ⟨bB, oB, rfl, v0, v1, v2, v3, v4, v5⟩ := manyR_get6 (HRow.out wr (HB6.out.trans (hb.out.mono HB6.out.size))) hcl
        have hat := Lib.hid (atV_get hcl)
        have hok := Lib.hid (HOk.out _ (List.getElem_mem hcl))
        obtain ⟨z, hz0⟩ : ∃ z, l[c] = z := ⟨_, rfl⟩
        have HZi := Lib.hid hz0
        rw [hz0] at v0 v1 v2 v3 v4 v5 hat hok
        clear hz0
        by_cases hz : z.kind = 0
        · rw [hz] at v0
          go_wp2_with fail
          go_ret
          exact ⟨rfl, HB6.out.trans (hb.out.mono HB6.out.size)⟩
        · have hzb : (z.kind == 0) = false := by simpa using hz
          have HZ := Lib.hid hz
          clear hz
          go_wp2_with fail
          clear v0 v1 v2 v3 v4 v5 g0
          go_loopw [9] (fun jv wr => ∃ j : Nat, j ≤ i ∧ jv = .int .i64 j ∧ Hid (∀ b, b < j → valOrd z (atV (rowAt rs b) (c : Int)) ≠ 0) ∧ Hid (Below w4.heap.size w4 wr)) (fun jv _ => i - (intOf jv).toNat)
          case atStart => exact ⟨0, Nat.zero_le _, rfl, Lib.hid (fun k h => by omega), hb⟩
          case round =>
            obtain ⟨j, hj, rfl, hVj, hb2⟩ := hrel
            have HBw := Lib.hid (HB6.out.trans (hb2.out.mono HB6.out.size))
            by_cases hlt2 : j < i
            · have hjl : j < rs.length := by rw [HN.out]; omega
              have HR2 := Lib.hid (HRows.out wr HBw.out)
              obtain ⟨_, _, e0, g0⟩ := HR2.out.get hil
              cases e0
              obtain ⟨_, _, e0, g1⟩ := HR2.out.get hjl
              cases e0
              have hro2 := Lib.hid (rowAt_get hjl)
              have hmem2 := Lib.hid (List.getElem_mem hjl)
              have hKj := (hK.out j hlt2).1
              rw [hro2.out] at hKj
              rw [HGi.out] at g0
              generalize rs[j] = r2 at *
              have HRow2 := Lib.hid ((HRows.out wr HBw.out).row r2 hmem2.out)
              have HL2 := Lib.hid (HR2.out.len r2 hmem2.out)
              have HOk2 := Lib.hid (HROk.out.1 r2 hmem2.out).1
              obtain ⟨B2, q2, cb2, l2⟩ := r2
              dsimp only at HRow2 HL2 HOk2 hro2 g1 hKj g0
              have hj0 : (0 : Int) ≤ (j : Int) := by omega
              have hji : (j : Int) < (i : Int) := by omega
              have hjn : (j : Int) < (n : Int) := by omega
              have wj : IntKind.i64.wrap ((j : Int) + 1) = (j : Int) + 1 := IntWalk.i64_in _ (by omega)
              have hcq2 : (c : Int) < (q2 : Int) := by have := HL2.out.1; omega
              obtain ⟨_, _, e0, v0, v1, v2, v3, v4, v5⟩ := manyR_get6 (HRow.out wr HBw.out) hcl
              cases e0
              obtain ⟨bC, oC, rfl, u0, u1, u2, u3, u4', u5⟩ := manyR_get6 HRow2.out hKj
              have hat2 := Lib.hid (atV_get hKj)
              have hok2 := Lib.hid (HOk2.out _ (List.getElem_mem hKj))
              rw [HZi.out] at v0 v1 v2 v3 v4 v5
              generalize l2[c] = y at *
              have HC : AllCells wr.drew [(⟨bA, oA + i, none⟩, .slice (some ⟨bB, oB, none⟩) q cb), (⟨bA, oA + j, none⟩, .slice (some ⟨bC, oC, none⟩) q2 cb2), (⟨bB, oB + c * 6, none⟩, .int .i64 z.kind), (⟨bB, oB + c * 6 + 1, none⟩, .int .i64 z.mant), (⟨bB, oB + c * 6 + 2, none⟩, .int .i64 z.exp), (⟨bB, oB + c * 6 + 3, none⟩, .string z.text), (⟨bB, oB + c * 6 + 4, none⟩, .bool z.truth), (⟨bB, oB + c * 6 + 5, none⟩, .int .i64 z.fault),
                (⟨bC, oC + c * 6, none⟩, .int .i64 y.kind), (⟨bC, oC + c * 6 + 1, none⟩, .int .i64 y.mant), (⟨bC, oC + c * 6 + 2, none⟩, .int .i64 y.exp), (⟨bC, oC + c * 6 + 3, none⟩, .string y.text), (⟨bC, oC + c * 6 + 4, none⟩, .bool y.truth), (⟨bC, oC + c * 6 + 5, none⟩, .int .i64 y.fault)] := ⟨g0, g1, v0, v1, v2, v3, v4, v5, u0, u1, u2, u3, u4', u5, trivial⟩
              have HOrd := Lib.hid (rorder_c z y hok.out.1 hok2.out.1 hok.out.2 hok2.out.2)
              unfold Val.cs at HOrd
              clear g0 g1 v0 v1 v2 v3 v4 v5 u0 u1 u2 u3 u4' u5
              go_wp2_with fail
              refine region_free _ [0, 1, 2, 3, 4, 5, 6, 7, 8, 9, 10, 11, 12, 13] 2 (by kernel_rfl) (by kernel_rfl) (by kernel_rfl) (by kernel_rfl) (by kernel_rfl) (fun _ _ _ _ _ h => h) HC ?_
              intro hne hu
              simp only [AllCells] at hu
              simp only [pick, List.take_succ_cons, List.take_zero, List.drop_succ_cons, List.drop_zero, List.cons_append, List.nil_append]
              repeat (go_big_quiet_step (fail))
              refine wpQuiet_nil ?_
              clear hne hu
              refine anyN_oneL 14 (by kernel_rfl) ?_
              simp only [List.take_succ_cons, List.take_zero, List.drop_succ_cons, List.drop_zero]
              go_wp2_with fail
              refine (HOrd.out _).mono ?_
              rintro e w7 ⟨rfl, b7⟩
              have HB7 := Lib.hid (hb2.out.drew.trans (b7.mono hb2.out.size))
              have HC7 := AllCells.below HC b7
              clear b7 HC
              go_wp2_with fail
              refine And.intro (fun _ => HC7) ?_
              refine anyN_more [15] 0 (by kernel_rfl) (by kernel_rfl) (by kernel_rfl) (by kernel_rfl) (fun _ _ _ _ _ h => h) HC7 ?_
              intro hne hu
              simp only [AllCells] at hu
              simp only [pick, List.take_succ_cons, List.take_zero, List.drop_succ_cons, List.drop_zero, List.cons_append, List.nil_append]
              repeat (go_big_quiet_step (fail))
              refine wpQuiet_nil ?_
              clear hne hu
              refine ⟨by kernel_rfl, ?_⟩
              clear HC7
              by_cases ho : valOrd z y = 0
              · have hob : (valOrd z y == 0) = true := by simpa using ho
                clear ho
                go_wp2_with fail
                go_ret
                exact ⟨rfl, HB6.out.trans (HB7.out.mono HB6.out.size)⟩
              · have hob : (valOrd z y == 0) = false := by simpa using ho
                have HNe := Lib.hid ho
                clear ho
                go_wp2_with fail
                refine ⟨⟨j + 1, by omega, by go_num, Lib.hid (fun b hb' => ?_), HB7⟩, by simp [intOf] <;> omega⟩
                by_cases hbj : b = j
                · subst hbj; rw [hro2.out, hat2.out]; exact HNe.out
                · exact hVj.out b (by omega)
            · obtain rfl : j = i := by omega
              have hjj : decide ((j : Int) < (j : Int)) = false := decide_eq_false (by omega)
              go_wp2_with fail
              refine ⟨⟨j + 1, by omega, by go_num, Lib.hid (fun k hk => ?_), Lib.hid (fun a b hab ha => ?_), hb2⟩, by simp [intOf] <;> omega⟩
              · by_cases hkj : k = j
                · subst hkj; rw [hro.out]; exact ⟨hcl, by rw [hat.out]; exact HZ.out⟩
                · exact hK.out k (by omega)
              · by_cases haj : a = j
                · subst haj; rw [hro.out, hat.out]; exact hVj.out b hab
                · exact hV.out a b hab (by omega)
    · obtain rfl : i = n := by omega
      have hjj : decide ((i : Int) < (i : Int)) = false := decide_eq_false (by omega)
      have HDn := Lib.hid (fun k hk => down_rev S1.out S2.out (fun a ha => (hK.out a ha).2) (fun a b hab ha => hV.out a b hab ha) k hk)
      have HL1 := Lib.hid S1.out.length
      have HL2 := Lib.hid S2.out.length
      clear hK hV
      go_wp2_with fail
      go_loopw [10] (fun kv wr => ∃ k : Nat, k ≤ i ∧ kv = .int .i64 k ∧ Hid (Below w4.heap.size w4 wr)) (fun kv _ => i - (intOf kv).toNat)
      case atStart => exact ⟨0, Nat.zero_le _, rfl, hb⟩
      case round =>
        obtain ⟨k, hk, rfl, hb3⟩ := hrel
        by_cases hlt3 : k < i
        · have P4 := Lib.hid (P3.out.kept (hb3.out.block _ P3.out.lt))
          have Q4 := Lib.hid (Q3.out.kept (hb3.out.block _ Q3.out.lt))
          obtain ⟨m, hm⟩ : ∃ m, i - 1 - k = m := ⟨_, rfl⟩
          have hmi : m < i := by omega
          have hmm : (i : Int) - 1 - (k : Int) = (m : Int) := by omega
          have p0 := natA_ints P4.out HL1.out hlt3
          have q0 := natA_ints Q4.out HL2.out hmi
          have he := HDn.out k hlt3
          rw [hm] at he
          rw [he] at p0
          have hk0 : (0 : Int) ≤ (k : Int) := by omega
          have hki : (k : Int) < (i : Int) := by omega
          have hm0 : (0 : Int) ≤ (m : Int) := by omega
          have hmi' : (m : Int) < (i : Int) := by omega
          have wk : IntKind.i64.wrap ((k : Int) + 1) = (k : Int) + 1 := IntWalk.i64_in _ (by omega)
          obtain ⟨y, hy⟩ : ∃ y, D d2 m = y := ⟨_, rfl⟩
          rw [hy] at p0 q0
          have hyy : ((y : Int) != (y : Int)) = false := by simp
          have HC : AllCells wr.drew [(⟨g1, k, none⟩, .int .i64 (y : Int)), (⟨g2, m, none⟩, .int .i64 (y : Int))] := ⟨p0, q0, trivial⟩
          clear he p0 q0 hy hm
          go_wp2_with fail
          refine region_free _ [0, 1, 2, 3, 4, 5, 6, 7, 8, 9, 10, 11, 12] 0 (by kernel_rfl) (by kernel_rfl) (by kernel_rfl) (by kernel_rfl) (by kernel_rfl) (fun _ _ _ _ _ h => h) HC ?_
          intro hne hu
          simp only [AllCells] at hu
          simp only [pick, List.take_succ_cons, List.take_zero, List.drop_succ_cons, List.drop_zero, List.cons_append, List.nil_append]
          repeat (go_big_quiet_step (fail))
          refine wpQuiet_nil ?_
          clear hne hu
          refine ⟨by kernel_rfl, ?_⟩
          clear HC
          go_wp2_with fail
          exact ⟨⟨k + 1, by omega, by go_num, Lib.hid hb3.out.drew⟩, by simp [intOf] <;> omega⟩
        · obtain rfl : k = i := by omega
          have hjj : decide ((k : Int) < (k : Int)) = false := decide_eq_false (by omega)
          go_wp2_with fail
          go_ret
          exact ⟨rfl, HB6.out.trans (hb3.out.mono HB6.out.size)⟩
end Go.Proofs.Ytifdpcjfjoekmaa
