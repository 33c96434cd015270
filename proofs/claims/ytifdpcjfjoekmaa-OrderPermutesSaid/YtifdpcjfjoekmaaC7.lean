/-
  counterpaneref01: Plus: its contract. Condition: few digits, small powers.
-/
import Derived.Test.YtifdpcjfjoekmaaC5
import Derived.Test.YtifdpcjfjoekmaaC6
namespace Go.Proofs.Ytifdpcjfjoekmaa
open Go.RowKit

def PlusP (w : World) (na nb : Bool) (X Y : Nat) (e0 : Int) (e : Ending) (w' : World) : Prop :=
  ∃ v o, e = .returned (.agg #[.bool (plusN na nb X Y).1, v, .int .i64 e0]) ∧ Below w.heap.size w w' ∧ IntSl w' v o ∧ vl o = (plusN na nb X Y).2
theorem intSl_of_blk {W : World} {g n : Nat} {d : List Nat} (h : Blk W g 3 (natA d)) (hl : d.length = n) (hn : n ≤ maxLen) : IntSl W (.slice (some ⟨g, 0, none⟩) n n) d :=
  ⟨some ⟨g, 0, none⟩, n, n, rfl, hl.symm, Nat.le_refl _, hn, (fun e => by cases e), fun _ => ⟨g, 0, rfl, h.lt, fun i x hx => by
    rw [Nat.zero_add, h.cell]
    simp [natA, hx]⟩⟩
theorem SS.below {w W : World} {g n : Nat} {d : List Nat} (h : SS w g n W d) (hg : w.heap.size ≤ g) : Below w.heap.size w W := h.off.below hg
set_option maxRecDepth 100000 in
set_option maxHeartbeats 4000000 in
theorem plus_c (na nb : Bool) (va vb : Value) (ea eb : Int) (x y : List Nat) (vx vy : Nat) (w : World) (hx : IntSl w va x) (hy : IntSl w vb y) (dx : Dgs x vx 20) (dy : Dgs y vy 20)
    (h1 : -40 ≤ ea ∧ ea ≤ 40) (h2 : -40 ≤ eb ∧ eb ≤ 40) :
    Calls Try.prog 33 #[.agg #[.bool na, va, .int .i64 ea], .agg #[.bool nb, vb, .int .i64 eb]] w
      (PlusP w na nb (vx * 10 ^ (ea - emin ea eb).toNat) (vy * 10 ^ (eb - emin ea eb).toNat) (emin ea eb)) := by
  have HL := Lib.hid (fun W (hW : Below w.heap.size w W) => level_c na nb va vb ea eb x y vx vy W (hx.next hW) (hy.next hW) dx dy h1 h2)
  have HXA := Lib.hid hx
  have HYB := Lib.hid hy
  clear hx hy dx dy h1 h2
  obtain ⟨Aa, pa, ca, rfl⟩ : ∃ A n c, va = .slice A n c := by obtain ⟨A, n, c, h, _⟩ := HXA.out; exact ⟨A, n, c, h⟩
  obtain ⟨Ab, pb, cb, rfl⟩ : ∃ A n c, vb = .slice A n c := by obtain ⟨A, n, c, h, _⟩ := HYB.out; exact ⟨A, n, c, h⟩
  have bV : Below w.heap.size w (((w.alloc (.cells #[.bool na, .slice Aa pa ca, .int .i64 ea] 57)).alloc (.cells #[.bool nb, .slice Ab pb cb, .int .i64 eb] 57)).alloc (.cells #[.bool false, .slice none 0 0, .int .i64 0] 57)) := (((Below.refl _ w).alloc (Nat.le_refl _) _).alloc (by simp) _).alloc (by simp; omega) _
  have HB := Lib.hid bV
  have bX := Lib.hid (((Blk.new w 57 #[.bool na, .slice Aa pa ca, .int .i64 ea]).alloc (.cells #[.bool nb, .slice Ab pb cb, .int .i64 eb] 57)).alloc (.cells #[.bool false, .slice none 0 0, .int .i64 0] 57))
  have bY := Lib.hid (show Blk (((w.alloc (.cells #[.bool na, .slice Aa pa ca, .int .i64 ea] 57)).alloc (.cells #[.bool nb, .slice Ab pb cb, .int .i64 eb] 57)).alloc (.cells #[.bool false, .slice none 0 0, .int .i64 0] 57)) (w.heap.size + 1) 57 #[.bool nb, .slice Ab pb cb, .int .i64 eb] by
    have := (Blk.new (w.alloc (.cells #[.bool na, .slice Aa pa ca, .int .i64 ea] 57)) 57 #[.bool nb, .slice Ab pb cb, .int .i64 eb]).alloc (.cells #[.bool false, .slice none 0 0, .int .i64 0] 57)
    rw [World.size_alloc] at this; exact this)
  have bZ := Lib.hid (show Blk (((w.alloc (.cells #[.bool na, .slice Aa pa ca, .int .i64 ea] 57)).alloc (.cells #[.bool nb, .slice Ab pb cb, .int .i64 eb] 57)).alloc (.cells #[.bool false, .slice none 0 0, .int .i64 0] 57)) (w.heap.size + 1 + 1) 57 #[.bool false, .slice none 0 0, .int .i64 0] by
    have := Blk.new ((w.alloc (.cells #[.bool na, .slice Aa pa ca, .int .i64 ea] 57)).alloc (.cells #[.bool nb, .slice Ab pb cb, .int .i64 eb] 57)) 57 #[.bool false, .slice none 0 0, .int .i64 0]
    rw [World.size_alloc, World.size_alloc] at this; exact this)
  clear bV
  generalize hXV : vx * 10 ^ (ea - emin ea eb).toNat = VX at *
  generalize hYV : vy * 10 ^ (eb - emin ea eb).toNat = VY at *
  generalize hE0 : emin ea eb = E at *
  have HXV := Lib.hid hXV
  have HYV := Lib.hid hYV
  have HE0 := Lib.hid hE0
  clear hXV hYV hE0
  go_enter Try.func33, Try.ntmps33
  go_wp2_with fail
  generalize (((w.alloc (.cells #[.bool na, .slice Aa pa ca, .int .i64 ea] 57)).alloc (.cells #[.bool nb, .slice Ab pb cb, .int .i64 eb] 57)).alloc (.cells #[.bool false, .slice none 0 0, .int .i64 0] 57)) = V at *
  refine (HL.out V HB.out).mono ?_
  rintro e w1 ⟨v1, v2, X, Y, rfl, b1, I1, I2, hXY, dX, dY⟩
  rw [HE0.out, HXV.out] at dX
  rw [HE0.out, HYV.out] at dY
  rw [HE0.out]
  have HB1 := Lib.hid (HB.out.trans (b1.mono HB.out.size))
  have bX1 := Lib.hid (bX.out.kept (b1.block _ bX.out.lt))
  have bY1 := Lib.hid (bY.out.kept (b1.block _ bY.out.lt))
  have bZ1 := Lib.hid (bZ.out.kept (b1.block _ bZ.out.lt))
  have HI1 := Lib.hid I1
  have HI2 := Lib.hid I2
  have HDX := Lib.hid dX
  have HDY := Lib.hid dY
  obtain ⟨n, hn⟩ : ∃ n, X.length = n := ⟨_, rfl⟩
  have hm : Y.length = n := hXY.symm.trans hn
  have n200 : n ≤ 200 := by rw [← hn]; exact dX.len
  have HN := Lib.hid hn
  have HM := Lib.hid hm
  obtain ⟨A, c, rfl⟩ : ∃ A c, v1 = .slice A n c := by obtain ⟨A, k, c, h, hk, _⟩ := I1; exact ⟨A, c, by rw [h, hk, hn]⟩
  obtain ⟨B, d, rfl⟩ : ∃ A c, v2 = .slice A n c := by obtain ⟨A, k, c, h, hk, _⟩ := I2; exact ⟨A, c, by rw [h, hk, hm]⟩
  clear b1 I1 I2 dX dY hXY hn hm HB bX bY bZ HL
  have hmk := make26 (n + 1) (by omega) w1
  have HS0 := Lib.hid (show SS w1 w1.heap.size (n + 1) (w1.alloc (.cells (natA (List.replicate (n + 1) 0)) 3)) (List.replicate (n + 1) 0) from ⟨(Off.refl _ _).next ((Below.refl _ _).alloc (Nat.le_refl _) _), Blk.new w1 3 _, by simp⟩)
  obtain ⟨g, hg⟩ : ∃ g, w1.heap.size = g := ⟨_, rfl⟩
  rw [hg] at hmk HS0
  have HG := Lib.hid hg
  clear hg
  rw [show ((n + 1 : Nat) : Int) = (n : Int) + 1 from by omega] at hmk
  obtain ⟨W2, hW2⟩ : ∃ W2, w1.alloc (.cells (natA (List.replicate (n + 1) 0)) 3) = W2 := ⟨_, rfl⟩
  have bX2 := Lib.hid (bX1.out.alloc (.cells (natA (List.replicate (n + 1) 0)) 3))
  have bY2 := Lib.hid (bY1.out.alloc (.cells (natA (List.replicate (n + 1) 0)) 3))
  rw [hW2] at hmk HS0 bX2 bY2
  clear hW2
  have hgX : w.heap.size ≠ g := by have := HG.out; have := bX1.out.lt; omega
  have hgY : w.heap.size + 1 ≠ g := by have := HG.out; have := bY1.out.lt; omega
  have hgZ : w.heap.size + 1 + 1 ≠ g := by have := HG.out; have := bZ1.out.lt; omega
  have HGX := Lib.hid hgX
  have HGY := Lib.hid hgY
  have HGZ := Lib.hid hgZ
  have HG2 := Lib.hid (show w1.heap.size ≤ g by have := HG.out; omega)
  clear hgX hgY hgZ
  have x0 := bX2.out.cell 0
  have y0 := bY2.out.cell 0
  simp only [List.getElem?_toArray, List.getElem?_cons_zero, List.getElem?_cons_succ] at x0 y0
  by_cases hab : na = nb
  · subst hab
    have hbb : (na == na) = true := by simp
    have HP : Hid (plusN na na VX VY = (na, VX + VY)) := if_pos rfl
    go_wp2_with fail
    clear x0 y0 hmk
    go_loopw [9, 10] (fun cv iv wr => ∃ (i : Int) (k : Nat) (o : List Nat), -1 ≤ i ∧ i < n ∧ k ≤ 1 ∧ cv = .int .i64 (k : Int) ∧ iv = .int .i64 i ∧ Hid (SumAt X Y o n (i + 1).toNat k) ∧ Hid (SS w1 g (n + 1) wr o)) (fun _ iv _ => (intOf iv + 1).toNat)
    case atStart => exact ⟨(n : Int) - 1, 0, _, by omega, by omega, by omega, rfl, rfl, Lib.hid (by rw [show ((n : Int) - 1 + 1).toNat = n by omega]; exact SumAt.start X Y n HN.out HM.out), HS0⟩
    case round =>
      obtain ⟨i, k, o, hi1, hi2, hk, rfl, rfl, hS, hW⟩ := hrel
      by_cases hi0 : 0 ≤ i
      · obtain ⟨j, rfl⟩ : ∃ j : Nat, i = j := ⟨i.toNat, by omega⟩
        have hjn : j < n := by omega
        have hjx : j < X.length := by rw [HN.out]; exact hjn
        have hjy : j < Y.length := by rw [HM.out]; exact hjn
        obtain ⟨A', n', c', e1, -, -, -, -, hRx⟩ := HI1.out.next (hW.out.below HG2.out)
        cases e1
        obtain ⟨A', n', c', e1, -, -, -, -, hRy⟩ := HI2.out.next (hW.out.below HG2.out)
        cases e1
        obtain ⟨bA, oA, rfl, lA, cA⟩ := hRx (fun e => by rw [e] at hjx; simp at hjx)
        obtain ⟨bB, oB, rfl, lB, cB⟩ := hRy (fun e => by rw [e] at hjy; simp at hjy)
        have ga : X[j]? = some X[j] := List.getElem?_eq_getElem hjx
        have gb : Y[j]? = some Y[j] := List.getElem?_eq_getElem hjy
        have gA := cA j X[j] ga
        have gB := cB j Y[j] gb
        have a9 := dig_at HDX.out.dig ga
        have b9 := dig_at HDY.out.dig gb
        generalize X[j] = a at *
        generalize Y[j] = b at *
        have HGa := Lib.hid ga
        have HGb := Lib.hid gb
        have HC : AllCells wr.drew [(⟨bA, oA + j, none⟩, .int .i64 (a : Int)), (⟨bB, oB + j, none⟩, .int .i64 (b : Int))] := ⟨gA, gB, trivial⟩
        have HST := Lib.hid (show SumAt X Y (o.set (j + 1) ((a + b + k) % 10)) n j ((a + b + k) / 10) from SumAt.step HN.out HM.out HDX.out.dig HDY.out.dig ga gb (by omega) (by have := hS.out; rw [show ((j : Int) + 1).toNat = j + 1 by omega] at this; exact this))
        clear hRx hRy cA cB ga gb gA gB hjx hjy hS
        have hj0 : (0 : Int) ≤ (j : Int) := by omega
        go_wp2_with fail
        refine region_free _ [0, 1, 2, 3, 4, 5, 6, 7, 8, 9, 10, 11] 0 (by kernel_rfl) (by kernel_rfl) (by kernel_rfl) (by kernel_rfl) (by kernel_rfl) (fun _ _ _ _ _ h => h) HC ?_
        intro hne hu
        simp only [AllCells] at hu
        simp only [pick, List.take_succ_cons, List.take_zero, List.drop_succ_cons, List.drop_zero, List.cons_append, List.nil_append]
        repeat (go_big_quiet_step (fail))
        refine wpQuiet_nil ?_
        clear hne hu
        refine ⟨by kernel_rfl, ?_⟩
        clear HC
        have W3 := Lib.hid (hW.out.next ((Below.refl _ wr).drew))
        have f3 := W3.out.blk.frozen (j + 1)
        have l3 := W3.out.blk.lt
        have hj1 : j + 1 < n + 1 := by omega
        have c3 := W3.out.cell hj1
        go_wp2_with fail
        refine ⟨⟨(j : Int) - 1, (a + b + k) / 10, o.set (j + 1) ((a + b + k) % 10), by omega, by omega, by omega, by go_num, rfl, Lib.hid ?_, Lib.hid ?_⟩, by simp [intOf] <;> omega⟩
        · rw [show ((j : Int) - 1 + 1).toNat = j by omega]; exact HST.out
        · have := (hW.out.set (j + 1) ((a + b + k) % 10)).next ((Below.refl _ _).drew)
          rw [show (((a + b + k) % 10 : Nat) : Int) = ((a : Int) + (b : Int) + (k : Int)) % 10 by omega] at this
          exact this
      · obtain rfl : i = -1 := by omega
        have hn0 : 0 < n + 1 := by omega
        have f3 := hW.out.blk.frozen 0
        have l3 := hW.out.blk.lt
        have c3 := hW.out.cell hn0
        have HS' := Lib.hid (hW.out.set 0 k)
        have HV' : Hid (vl (o.set 0 k) = (plusN na na VX VY).2) := Lib.hid (by rw [HP.out, ← HDX.out.val, ← HDY.out.val]; exact (SumAt.done hS.out).1)
        have bX3 := Lib.hid (HS'.out.off.blk bX1.out HGX.out)
        have bZ3 := Lib.hid (HS'.out.off.blk bZ1.out HGZ.out)
        have x0 := bX3.out.cell 0
        have z0 := bZ3.out.cell 0
        have z1 := bZ3.out.cell 1
        have z2 := bZ3.out.cell 2
        have g0 := bZ3.out.frozen 0
        have g1 := bZ3.out.frozen 1
        have g2 := bZ3.out.frozen 2
        have lz := bZ3.out.lt
        simp only [List.getElem?_toArray, List.getElem?_cons_zero, List.getElem?_cons_succ] at x0 z0 z1 z2
        go_wp2_with fail
        change bodyPost _ _ _ _ _ (put3 (wr.setCell ⟨g, 0, none⟩ (.int .i64 (k : Int))) (w.heap.size + 1 + 1) (.bool na) (.slice (some ⟨g, 0, none⟩) (n + 1) (n + 1)) (.int .i64 E))
        have HB5 := Lib.hid (below_put3 (HB1.out.trans ((HS'.out.below HG2.out).mono HB1.out.size)) (show w.heap.size ≤ w.heap.size + 1 + 1 by omega) (.bool na) (.slice (some ⟨g, 0, none⟩) (n + 1) (n + 1)) (.int .i64 E))
        have bZ5 := Lib.hid (blk_put3 bZ3.out (.bool na) (.slice (some ⟨g, 0, none⟩) (n + 1) (n + 1)) (.int .i64 E))
        have bG5 := Lib.hid (blk_put3far HS'.out.blk (Ne.symm HGZ.out) (.bool na) (.slice (some ⟨g, 0, none⟩) (n + 1) (n + 1)) (.int .i64 E))
        have HLn := Lib.hid HS'.out.len
        have d0 := bZ5.out.cell 0
        have d1 := bZ5.out.cell 1
        have d2 := bZ5.out.cell 2
        simp only [List.getElem?_toArray, List.getElem?_cons_zero, List.getElem?_cons_succ] at d0 d1 d2
        exact bodyPost_ret (v := .agg #[.bool na, .slice (some ⟨g, 0, none⟩) (n + 1) (n + 1), .int .i64 E]) (by simp [results, Try.f33, go_sem, d0, d1, d2]) rfl ⟨_, _, by rw [HP.out], HB5.out, intSl_of_blk bG5.out HLn.out (by simp only [maxLen]; omega), HV'.out⟩
  · have hbb : (na == nb) = false := by simpa using hab
    have HLE := Lib.hid (lessL_spec X Y (by rw [HN.out, HM.out]) HDX.out.dig HDY.out.dig)
    have y00 := y0
    go_wp2_with fail
    obtain ⟨A', n', c', e1, -, -, -, -, hRx⟩ := HI1.out.next (HS0.out.below HG2.out)
    cases e1
    obtain ⟨A', n', c', e1, -, -, -, -, hRy⟩ := HI2.out.next (HS0.out.below HG2.out)
    cases e1
    refine (less_c A B n c d X Y W2 hRx hRy HN.out HM.out (by omega)).mono ?_
    rintro e W3 ⟨rfl, b3⟩
    have HS3 := Lib.hid (HS0.out.next b3)
    have bX3 := Lib.hid (bX2.out.kept (b3.block _ bX2.out.lt))
    have bY3 := Lib.hid (bY2.out.kept (b3.block _ bY2.out.lt))
    have x1 := bX3.out.cell 0
    have y1 := bY3.out.cell 0
    simp only [List.getElem?_toArray, List.getElem?_cons_zero, List.getElem?_cons_succ] at x1 y1
    clear hRx hRy b3 x0 y0 y00 hmk
    by_cases hl : lessL X Y = true
    · have HP : Hid (plusN na nb VX VY = (nb, VY - VX)) := Lib.hid (by
        have := HLE.out.1 hl
        rw [HDX.out.val, HDY.out.val] at this
        unfold plusN
        rw [if_neg hab, if_pos this])
      have HVV : Hid (vl X ≤ vl Y) := Lib.hid (by have := HLE.out.1 hl; omega)
      have HVE : Hid (vl Y - vl X = (plusN na nb VX VY).2) := Lib.hid (by rw [HP.out, HDX.out.val, HDY.out.val])
      rw [hl]
      go_wp2_with fail
      clear x1 y1
      go_loopw [13, 14] (fun cv iv wr => ∃ (i : Int) (k : Nat) (o : List Nat), -1 ≤ i ∧ i < n ∧ k ≤ 1 ∧ cv = .int .i64 (k : Int) ∧ iv = .int .i64 i ∧ Hid (DiffAt Y X o n (i + 1).toNat k) ∧ Hid (SS w1 g (n + 1) wr o)) (fun _ iv _ => (intOf iv + 1).toNat)
      case atStart => exact ⟨(n : Int) - 1, 0, _, by omega, by omega, by omega, rfl, rfl, Lib.hid (by rw [show ((n : Int) - 1 + 1).toNat = n by omega]; exact DiffAt.start Y X n HM.out HN.out), HS3⟩
      case round =>
        obtain ⟨i, k, o, hi1, hi2, hk, rfl, rfl, hS, hW⟩ := hrel
        by_cases hi0 : 0 ≤ i
        · obtain ⟨j, rfl⟩ : ∃ j : Nat, i = j := ⟨i.toNat, by omega⟩
          have hjn : j < n := by omega
          have hjx : j < Y.length := by rw [HM.out]; exact hjn
          have hjy : j < X.length := by rw [HN.out]; exact hjn
          obtain ⟨A', n', c', e1, -, -, -, -, hRx⟩ := HI2.out.next (hW.out.below HG2.out)
          cases e1
          obtain ⟨A', n', c', e1, -, -, -, -, hRy⟩ := HI1.out.next (hW.out.below HG2.out)
          cases e1
          obtain ⟨bA, oA, rfl, lA, cA⟩ := hRx (fun e => by rw [e] at hjx; simp at hjx)
          obtain ⟨bB, oB, rfl, lB, cB⟩ := hRy (fun e => by rw [e] at hjy; simp at hjy)
          have ga : Y[j]? = some Y[j] := List.getElem?_eq_getElem hjx
          have gb : X[j]? = some X[j] := List.getElem?_eq_getElem hjy
          have gA := cA j Y[j] ga
          have gB := cB j X[j] gb
          have a9 := dig_at HDY.out.dig ga
          have b9 := dig_at HDX.out.dig gb
          generalize Y[j] = a at *
          generalize X[j] = b at *
          have HC : AllCells wr.drew [(⟨bA, oA + j, none⟩, .int .i64 (a : Int)), (⟨bB, oB + j, none⟩, .int .i64 (b : Int))] := ⟨gA, gB, trivial⟩
          have HSTEP : Hid (∀ f bo : Nat, bo ≤ 1 → f ≤ 9 → a + 10 * bo = b + k + f → DiffAt Y X (o.set (j + 1) f) n j bo) := Lib.hid (fun f bo h1 h2 h3 => DiffAt.step HM.out HN.out ga gb (by omega) (by have := hS.out; rw [show ((j : Int) + 1).toNat = j + 1 by omega] at this; exact this) h1 h2 h3)
          clear hRx hRy cA cB ga gb gA gB hjx hjy hS
          have hj0 : (0 : Int) ≤ (j : Int) := by omega
          have W3 := Lib.hid (hW.out.next ((Below.refl _ wr).drew))
          have f3 := W3.out.blk.frozen (j + 1)
          have l3 := W3.out.blk.lt
          have hj1 : j + 1 < n + 1 := by omega
          have c3 := W3.out.cell hj1
          by_cases hneg : a < b + k
          · obtain ⟨f, hf⟩ : ∃ f : Nat, a + 10 = b + k + f := ⟨a + 10 - b - k, by omega⟩
            have f9 : f ≤ 9 := by omega
            have hlt : (a : Int) - (b : Int) - (k : Int) < 0 := by omega
            have hfv : (a : Int) - (b : Int) - (k : Int) + 10 = (f : Int) := by omega
            have HF := Lib.hid (HSTEP.out f 1 (by omega) f9 (by omega))
            clear hf
            go_wp2_with fail
            refine region_free _ [0, 1, 2, 3, 4, 5, 6, 7, 8, 9, 10, 11] 0 (by kernel_rfl) (by kernel_rfl) (by kernel_rfl) (by kernel_rfl) (by kernel_rfl) (fun _ _ _ _ _ h => h) HC ?_
            intro hne hu
            simp only [AllCells] at hu
            simp only [pick, List.take_succ_cons, List.take_zero, List.drop_succ_cons, List.drop_zero, List.cons_append, List.nil_append]
            repeat (go_big_quiet_step (fail))
            refine wpQuiet_nil ?_
            clear hne hu
            refine ⟨by kernel_rfl, ?_⟩
            clear HC
            go_wp2_with fail
            refine ⟨⟨(j : Int) - 1, 1, o.set (j + 1) f, by omega, by omega, by omega, by go_num, rfl, Lib.hid ?_, Lib.hid ?_⟩, by simp [intOf] <;> omega⟩
            · rw [show ((j : Int) - 1 + 1).toNat = j by omega]; exact HF.out
            · exact (hW.out.set (j + 1) f).next ((Below.refl _ _).drew)
          · obtain ⟨f, hf⟩ : ∃ f : Nat, a = b + k + f := ⟨a - b - k, by omega⟩
            have f9 : f ≤ 9 := by omega
            have hfv : (a : Int) - (b : Int) - (k : Int) = (f : Int) := by omega
            have hf0 : ¬ (f : Int) < 0 := by omega
            have HF := Lib.hid (HSTEP.out f 0 (by omega) f9 (by omega))
            clear hf
            go_wp2_with fail
            refine region_free _ [0, 1, 2, 3, 4, 5, 6, 7, 8, 9, 10, 11] 0 (by kernel_rfl) (by kernel_rfl) (by kernel_rfl) (by kernel_rfl) (by kernel_rfl) (fun _ _ _ _ _ h => h) HC ?_
            intro hne hu
            simp only [AllCells] at hu
            simp only [pick, List.take_succ_cons, List.take_zero, List.drop_succ_cons, List.drop_zero, List.cons_append, List.nil_append]
            repeat (go_big_quiet_step (fail))
            refine wpQuiet_nil ?_
            clear hne hu
            refine ⟨by kernel_rfl, ?_⟩
            clear HC
            go_wp2_with fail
            refine ⟨⟨(j : Int) - 1, 0, o.set (j + 1) f, by omega, by omega, by omega, by go_num, rfl, Lib.hid ?_, Lib.hid ?_⟩, by simp [intOf] <;> omega⟩
            · rw [show ((j : Int) - 1 + 1).toNat = j by omega]; exact HF.out
            · exact (hW.out.set (j + 1) f).next ((Below.refl _ _).drew)
        · obtain rfl : i = -1 := by omega
          have HV' : Hid (vl o = (plusN na nb VX VY).2) := Lib.hid (by rw [← HVE.out]; exact DiffAt.done HVV.out hS.out)
          have HS' := hW
          have bZ3 := Lib.hid (HS'.out.off.blk bZ1.out HGZ.out)
          have z0 := bZ3.out.cell 0
          have z1 := bZ3.out.cell 1
          have z2 := bZ3.out.cell 2
          have g0 := bZ3.out.frozen 0
          have g1 := bZ3.out.frozen 1
          have g2 := bZ3.out.frozen 2
          have lz := bZ3.out.lt
          simp only [List.getElem?_toArray, List.getElem?_cons_zero, List.getElem?_cons_succ] at z0 z1 z2
          go_wp2_with fail
          change bodyPost _ _ _ _ _ (put3 wr (w.heap.size + 1 + 1) (.bool nb) (.slice (some ⟨g, 0, none⟩) (n + 1) (n + 1)) (.int .i64 E))
          have HB5 := Lib.hid (below_put3 (HB1.out.trans ((HS'.out.below HG2.out).mono HB1.out.size)) (show w.heap.size ≤ w.heap.size + 1 + 1 by omega) (.bool nb) (.slice (some ⟨g, 0, none⟩) (n + 1) (n + 1)) (.int .i64 E))
          have bZ5 := Lib.hid (blk_put3 bZ3.out (.bool nb) (.slice (some ⟨g, 0, none⟩) (n + 1) (n + 1)) (.int .i64 E))
          have bG5 := Lib.hid (blk_put3far HS'.out.blk (Ne.symm HGZ.out) (.bool nb) (.slice (some ⟨g, 0, none⟩) (n + 1) (n + 1)) (.int .i64 E))
          have HLn := Lib.hid HS'.out.len
          have d0 := bZ5.out.cell 0
          have d1 := bZ5.out.cell 1
          have d2 := bZ5.out.cell 2
          simp only [List.getElem?_toArray, List.getElem?_cons_zero, List.getElem?_cons_succ] at d0 d1 d2
          exact bodyPost_ret (v := .agg #[.bool nb, .slice (some ⟨g, 0, none⟩) (n + 1) (n + 1), .int .i64 E]) (by simp [results, Try.f33, go_sem, d0, d1, d2]) rfl ⟨_, _, by rw [HP.out], HB5.out, intSl_of_blk bG5.out HLn.out (by simp only [maxLen]; omega), HV'.out⟩
    · have hl' : lessL X Y = false := by simpa using hl
      have HP : Hid (plusN na nb VX VY = (na, VX - VY)) := Lib.hid (by
        have := mt HLE.out.2 hl
        rw [HDX.out.val, HDY.out.val] at this
        unfold plusN
        rw [if_neg hab, if_neg this])
      have HVV : Hid (vl Y ≤ vl X) := Lib.hid (by have := mt HLE.out.2 hl; omega)
      have HVE : Hid (vl X - vl Y = (plusN na nb VX VY).2) := Lib.hid (by rw [HP.out, HDX.out.val, HDY.out.val])
      rw [hl']
      go_wp2_with fail
      clear x1 y1
      go_loopw [13, 14] (fun cv iv wr => ∃ (i : Int) (k : Nat) (o : List Nat), -1 ≤ i ∧ i < n ∧ k ≤ 1 ∧ cv = .int .i64 (k : Int) ∧ iv = .int .i64 i ∧ Hid (DiffAt X Y o n (i + 1).toNat k) ∧ Hid (SS w1 g (n + 1) wr o)) (fun _ iv _ => (intOf iv + 1).toNat)
      case atStart => exact ⟨(n : Int) - 1, 0, _, by omega, by omega, by omega, rfl, rfl, Lib.hid (by rw [show ((n : Int) - 1 + 1).toNat = n by omega]; exact DiffAt.start X Y n HN.out HM.out), HS3⟩
      case round =>
        obtain ⟨i, k, o, hi1, hi2, hk, rfl, rfl, hS, hW⟩ := hrel
        by_cases hi0 : 0 ≤ i
        · obtain ⟨j, rfl⟩ : ∃ j : Nat, i = j := ⟨i.toNat, by omega⟩
          have hjn : j < n := by omega
          have hjx : j < X.length := by rw [HN.out]; exact hjn
          have hjy : j < Y.length := by rw [HM.out]; exact hjn
          obtain ⟨A', n', c', e1, -, -, -, -, hRx⟩ := HI1.out.next (hW.out.below HG2.out)
          cases e1
          obtain ⟨A', n', c', e1, -, -, -, -, hRy⟩ := HI2.out.next (hW.out.below HG2.out)
          cases e1
          obtain ⟨bA, oA, rfl, lA, cA⟩ := hRx (fun e => by rw [e] at hjx; simp at hjx)
          obtain ⟨bB, oB, rfl, lB, cB⟩ := hRy (fun e => by rw [e] at hjy; simp at hjy)
          have ga : X[j]? = some X[j] := List.getElem?_eq_getElem hjx
          have gb : Y[j]? = some Y[j] := List.getElem?_eq_getElem hjy
          have gA := cA j X[j] ga
          have gB := cB j Y[j] gb
          have a9 := dig_at HDX.out.dig ga
          have b9 := dig_at HDY.out.dig gb
          generalize X[j] = a at *
          generalize Y[j] = b at *
          have HC : AllCells wr.drew [(⟨bA, oA + j, none⟩, .int .i64 (a : Int)), (⟨bB, oB + j, none⟩, .int .i64 (b : Int))] := ⟨gA, gB, trivial⟩
          have HSTEP : Hid (∀ f bo : Nat, bo ≤ 1 → f ≤ 9 → a + 10 * bo = b + k + f → DiffAt X Y (o.set (j + 1) f) n j bo) := Lib.hid (fun f bo h1 h2 h3 => DiffAt.step HN.out HM.out ga gb (by omega) (by have := hS.out; rw [show ((j : Int) + 1).toNat = j + 1 by omega] at this; exact this) h1 h2 h3)
          clear hRx hRy cA cB ga gb gA gB hjx hjy hS
          have hj0 : (0 : Int) ≤ (j : Int) := by omega
          have W3 := Lib.hid (hW.out.next ((Below.refl _ wr).drew))
          have f3 := W3.out.blk.frozen (j + 1)
          have l3 := W3.out.blk.lt
          have hj1 : j + 1 < n + 1 := by omega
          have c3 := W3.out.cell hj1
          by_cases hneg : a < b + k
          · obtain ⟨f, hf⟩ : ∃ f : Nat, a + 10 = b + k + f := ⟨a + 10 - b - k, by omega⟩
            have f9 : f ≤ 9 := by omega
            have hlt : (a : Int) - (b : Int) - (k : Int) < 0 := by omega
            have hfv : (a : Int) - (b : Int) - (k : Int) + 10 = (f : Int) := by omega
            have HF := Lib.hid (HSTEP.out f 1 (by omega) f9 (by omega))
            clear hf
            go_wp2_with fail
            refine region_free _ [0, 1, 2, 3, 4, 5, 6, 7, 8, 9, 10, 11] 0 (by kernel_rfl) (by kernel_rfl) (by kernel_rfl) (by kernel_rfl) (by kernel_rfl) (fun _ _ _ _ _ h => h) HC ?_
            intro hne hu
            simp only [AllCells] at hu
            simp only [pick, List.take_succ_cons, List.take_zero, List.drop_succ_cons, List.drop_zero, List.cons_append, List.nil_append]
            repeat (go_big_quiet_step (fail))
            refine wpQuiet_nil ?_
            clear hne hu
            refine ⟨by kernel_rfl, ?_⟩
            clear HC
            go_wp2_with fail
            refine ⟨⟨(j : Int) - 1, 1, o.set (j + 1) f, by omega, by omega, by omega, by go_num, rfl, Lib.hid ?_, Lib.hid ?_⟩, by simp [intOf] <;> omega⟩
            · rw [show ((j : Int) - 1 + 1).toNat = j by omega]; exact HF.out
            · exact (hW.out.set (j + 1) f).next ((Below.refl _ _).drew)
          · obtain ⟨f, hf⟩ : ∃ f : Nat, a = b + k + f := ⟨a - b - k, by omega⟩
            have f9 : f ≤ 9 := by omega
            have hfv : (a : Int) - (b : Int) - (k : Int) = (f : Int) := by omega
            have hf0 : ¬ (f : Int) < 0 := by omega
            have HF := Lib.hid (HSTEP.out f 0 (by omega) f9 (by omega))
            clear hf
            go_wp2_with fail
            refine region_free _ [0, 1, 2, 3, 4, 5, 6, 7, 8, 9, 10, 11] 0 (by kernel_rfl) (by kernel_rfl) (by kernel_rfl) (by kernel_rfl) (by kernel_rfl) (fun _ _ _ _ _ h => h) HC ?_
            intro hne hu
            simp only [AllCells] at hu
            simp only [pick, List.take_succ_cons, List.take_zero, List.drop_succ_cons, List.drop_zero, List.cons_append, List.nil_append]
            repeat (go_big_quiet_step (fail))
            refine wpQuiet_nil ?_
            clear hne hu
            refine ⟨by kernel_rfl, ?_⟩
            clear HC
            go_wp2_with fail
            refine ⟨⟨(j : Int) - 1, 0, o.set (j + 1) f, by omega, by omega, by omega, by go_num, rfl, Lib.hid ?_, Lib.hid ?_⟩, by simp [intOf] <;> omega⟩
            · rw [show ((j : Int) - 1 + 1).toNat = j by omega]; exact HF.out
            · exact (hW.out.set (j + 1) f).next ((Below.refl _ _).drew)
        · obtain rfl : i = -1 := by omega
          have HV' : Hid (vl o = (plusN na nb VX VY).2) := Lib.hid (by rw [← HVE.out]; exact DiffAt.done HVV.out hS.out)
          have HS' := hW
          have bZ3 := Lib.hid (HS'.out.off.blk bZ1.out HGZ.out)
          have z0 := bZ3.out.cell 0
          have z1 := bZ3.out.cell 1
          have z2 := bZ3.out.cell 2
          have g0 := bZ3.out.frozen 0
          have g1 := bZ3.out.frozen 1
          have g2 := bZ3.out.frozen 2
          have lz := bZ3.out.lt
          simp only [List.getElem?_toArray, List.getElem?_cons_zero, List.getElem?_cons_succ] at z0 z1 z2
          go_wp2_with fail
          change bodyPost _ _ _ _ _ (put3 wr (w.heap.size + 1 + 1) (.bool na) (.slice (some ⟨g, 0, none⟩) (n + 1) (n + 1)) (.int .i64 E))
          have HB5 := Lib.hid (below_put3 (HB1.out.trans ((HS'.out.below HG2.out).mono HB1.out.size)) (show w.heap.size ≤ w.heap.size + 1 + 1 by omega) (.bool na) (.slice (some ⟨g, 0, none⟩) (n + 1) (n + 1)) (.int .i64 E))
          have bZ5 := Lib.hid (blk_put3 bZ3.out (.bool na) (.slice (some ⟨g, 0, none⟩) (n + 1) (n + 1)) (.int .i64 E))
          have bG5 := Lib.hid (blk_put3far HS'.out.blk (Ne.symm HGZ.out) (.bool na) (.slice (some ⟨g, 0, none⟩) (n + 1) (n + 1)) (.int .i64 E))
          have HLn := Lib.hid HS'.out.len
          have d0 := bZ5.out.cell 0
          have d1 := bZ5.out.cell 1
          have d2 := bZ5.out.cell 2
          simp only [List.getElem?_toArray, List.getElem?_cons_zero, List.getElem?_cons_succ] at d0 d1 d2
          exact bodyPost_ret (v := .agg #[.bool na, .slice (some ⟨g, 0, none⟩) (n + 1) (n + 1), .int .i64 E]) (by simp [results, Try.f33, go_sem, d0, d1, d2]) rfl ⟨_, _, by rw [HP.out], HB5.out, intSl_of_blk bG5.out HLn.out (by simp only [maxLen]; omega), HV'.out⟩
end Go.Proofs.Ytifdpcjfjoekmaa
