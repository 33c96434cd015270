/-
  counterpaneref01: level: its contract. Condition: few digits, small powers.
-/
import Derived.Test.YtifdpcjfjoekmaaC4
namespace Go.Proofs.Ytifdpcjfjoekmaa
open Go.RowKit

def emin (a b : Int) : Int := if b < a then b else a
theorem emin_le (a b : Int) : emin a b ≤ a ∧ emin a b ≤ b := by unfold emin; split <;> omega
theorem emin_or (a b : Int) : emin a b = a ∨ emin a b = b := by unfold emin; split <;> simp
/-- Digits of so much. -/
structure Dgs (X : List Nat) (v n : Nat) : Prop where
  dig : Dig X
  val : vl X = v
  len : X.length ≤ n
theorem Dgs.zero {X : List Nat} {v n m : Nat} (h : Dgs X v n) (hm : X.length < m) : Dgs (0 :: X) v m :=
  ⟨fun d hd => by rcases List.mem_cons.1 hd with rfl | hd; exact Nat.zero_le _; exact h.dig d hd, by rw [vl_cons, h.val]; simp, by simp; omega⟩
theorem Dgs.wide {X : List Nat} {v n : Nat} (h : Dgs X v n) (k m : Nat) (hm : n + k ≤ m) : Dgs (WideL X k) (v * 10 ^ k) m :=
  ⟨dig_append h.dig (dig_zeros k), by rw [WideL, vl_wide, h.val], by have := h.len; simp [WideL]; omega⟩
theorem intSl_len {w : World} {v : Value} {l : List Nat} (h : IntSl w v l) : slLen v = l.length := by
  obtain ⟨A, n, c, rfl, hn, _⟩ := h
  exact hn
def LevelP (w : World) (vx vy : Nat) (ea eb : Int) (e : Ending) (w' : World) : Prop :=
  ∃ v1 v2 X Y, e = .returned (.tuple #[v1, v2, .int .i64 (emin ea eb)]) ∧ Below w.heap.size w w' ∧ IntSl w' v1 X ∧ IntSl w' v2 Y ∧ X.length = Y.length ∧
    Dgs X (vx * 10 ^ (ea - emin ea eb).toNat) 200 ∧ Dgs Y (vy * 10 ^ (eb - emin ea eb).toNat) 200

theorem one_own (w : World) (base : Nat) (hb : base ≤ w.heap.size) (x : Int) : (w.alloc (.cells #[.int .i64 x] 3)).ownsRow base 3 1 (.slice (some ⟨w.heap.size, 0, none⟩) 1 1) 1 [.int .i64 x] :=
  ⟨rfl, .inr ⟨w.heap.size, 1, #[.int .i64 x], rfl, hb, heap_alloc_new w _, Nat.le_refl _, by decide, rfl, rfl⟩⟩
theorem wide_c0 (v : Value) (d : List Nat) (w : World) (hv : IntSl w v d) (hd : d.length ≤ 1000) : Calls Try.prog 50 #[v, .int .i64 0] w (DigP w (WideL d 0)) := wide_c v d 0 w hv hd (by omega)
set_option maxRecDepth 100000 in
set_option maxHeartbeats 4000000 in
theorem level_c (na nb : Bool) (va vb : Value) (ea eb : Int) (x y : List Nat) (vx vy : Nat) (w : World) (hx : IntSl w va x) (hy : IntSl w vb y) (dx : Dgs x vx 20) (dy : Dgs y vy 20)
    (h1 : -40 ≤ ea ∧ ea ≤ 40) (h2 : -40 ≤ eb ∧ eb ≤ 40) :
    Calls Try.prog 42 #[.agg #[.bool na, va, .int .i64 ea], .agg #[.bool nb, vb, .int .i64 eb]] w (LevelP w vx vy ea eb) := by
  obtain ⟨i0, hi, hz0, hz1, hz2⟩ := info_parts Try.info3
  have bV : Below w.heap.size w ((w.alloc (.cells #[.bool na, va, .int .i64 ea] 57)).alloc (.cells #[.bool nb, vb, .int .i64 eb] 57)) := ((Below.refl _ w).alloc (Nat.le_refl _) _).alloc (by simp) _
  have HB := Lib.hid bV
  have bX := Lib.hid ((Blk.new w 57 #[.bool na, va, .int .i64 ea]).alloc (.cells #[.bool nb, vb, .int .i64 eb] 57))
  have bY := Lib.hid (show Blk ((w.alloc (.cells #[.bool na, va, .int .i64 ea] 57)).alloc (.cells #[.bool nb, vb, .int .i64 eb] 57)) (w.heap.size + 1) 57 #[.bool nb, vb, .int .i64 eb] by
    have := Blk.new (w.alloc (.cells #[.bool na, va, .int .i64 ea] 57)) 57 #[.bool nb, vb, .int .i64 eb]
    rw [World.size_alloc] at this; exact this)
  obtain ⟨a1, a2⟩ := h1
  obtain ⟨b1, b2⟩ := h2
  obtain ⟨E, hE⟩ : ∃ E, emin ea eb = E := ⟨_, rfl⟩
  have hEa : E ≤ ea := by have := (emin_le ea eb).1; omega
  have hEb : E ≤ eb := by have := (emin_le ea eb).2; omega
  have hEl : -40 ≤ E := by rcases emin_or ea eb with h | h <;> omega
  obtain ⟨ka, hka⟩ : ∃ ka : Nat, ea - E = ka := ⟨(ea - E).toNat, by omega⟩
  obtain ⟨kb, hkb⟩ : ∃ kb : Nat, eb - E = kb := ⟨(eb - E).toNat, by omega⟩
  have ka1 : ka ≤ 80 := by omega
  have kb1 : kb ≤ 80 := by omega
  have wa : IntKind.i64.wrap (ea - E) = (ka : Int) := by rw [hka]; exact IntWalk.i64_in _ (by omega)
  have wb : IntKind.i64.wrap (eb - E) = (kb : Int) := by rw [hkb]; exact IntWalk.i64_in _ (by omega)
  have HE := Lib.hid hE
  have HKA := Lib.hid hka
  have HKB := Lib.hid hkb
  have HDX := Lib.hid dx
  have HDY := Lib.hid dy
  have HX := Lib.hid hx
  have HY := Lib.hid hy
  clear bV hE hka hkb dx dy hx hy
  by_cases hlt : eb < ea
  · have hEE : Hid (E = eb) := Lib.hid (by rw [← HE.out]; exact if_pos hlt)
    have wa' : IntKind.i64.wrap (ea - eb) = (ka : Int) := by rw [← hEE.out]; exact wa
    have wb' : IntKind.i64.wrap (eb - eb) = (kb : Int) := by have := wb; rw [hEE.out] at this; exact this
    clear wa wb
    obtain rfl : kb = 0 := by have := HKB.out; have := hEE.out; omega
    go_enter Try.func42, Try.ntmps42
    go_wp2_with fail
    generalize ((w.alloc (.cells #[.bool na, va, .int .i64 ea] 57)).alloc (.cells #[.bool nb, vb, .int .i64 eb] 57)) = V at *
    refine ((fun W h1 h2 => wide_c va x ka W h1 h2 (by omega)) V (HX.out.next HB.out) (by have := HDX.out.len; omega)).mono ?_
    rintro e w1 ⟨v1, rfl, b1, r1⟩
    have HB1 := Lib.hid (HB.out.trans (b1.mono HB.out.size))
    have bY1 := Lib.hid (bY.out.kept (b1.block _ bY.out.lt))
    have I1 := Lib.hid (intSl_of_row r1)
    have y1 := bY1.out.cell 1
    have y2 := bY1.out.cell 2
    simp only [List.getElem?_toArray, List.getElem?_cons_zero, List.getElem?_cons_succ] at y1 y2
    clear b1 r1 HB bX bY
    go_wp2_with fail
    refine ((wide_c0 vb y) w1 (HY.out.next HB1.out) (by have := HDY.out.len; omega)).mono ?_
    rintro e w2 ⟨v2, rfl, b2', r2⟩
    have HB2 := Lib.hid (HB1.out.trans (b2'.mono HB1.out.size))
    have I2 := Lib.hid (I1.out.next b2')
    have J2 := Lib.hid (intSl_of_row r2)
    have DX2 := Lib.hid (HDX.out.wide ka 200 (by omega))
    have DY2 := Lib.hid (HDY.out.wide 0 200 (by omega))
    clear b2' r2 HB1 bY1 I1 y1 y2 HDX HDY
    generalize WideL x ka = X0 at *
    generalize WideL y 0 = Y0 at *
    obtain ⟨VX, hVX⟩ : ∃ VX, vx * 10 ^ ka = VX := ⟨_, rfl⟩
    obtain ⟨VY, hVY⟩ : ∃ VY, vy * 10 ^ 0 = VY := ⟨_, rfl⟩
    rw [hVX] at DX2
    rw [hVY] at DY2
    have HVX := Lib.hid hVX
    have HVY := Lib.hid hVY
    clear hVX hVY
    obtain ⟨B, m, cb, rfl, hm, hmc, hcm, hB, hRB⟩ := J2.out
    have HM := Lib.hid hm
    have HRB := Lib.hid hRB
    have hm200 : m ≤ 200 := by rw [hm]; exact DY2.out.len
    have HBN := Lib.hid hB
    have HCM := Lib.hid hcm
    clear hm hRB hB hcm
    go_wp2_with fail
    go_loopw [8] (fun v wr => ∃ X : List Nat, Hid (Below w2.heap.size w2 wr) ∧ Hid (IntSl wr v X) ∧ Hid (Dgs X VX 200)) (fun v _ => 200 - slLen v)
    case atStart => exact ⟨X0, Below.refl _ _, I2, DX2⟩
    case round =>
      obtain ⟨X, hb, hI, hD⟩ := hrel
      obtain ⟨A, n, c, rfl, hn, hnc, hcn, hA, hR⟩ := hI.out
      have HNn := Lib.hid hn
      have HA := Lib.hid hA
      have n200 : n ≤ 200 := by rw [hn]; exact hD.out.len
      clear hn hA
      by_cases hlt2 : n < m
      · have hlt3 : (n : Int) < (m : Int) := by omega
        have hbs := bs1_26 wr 0
        have bl : Below wr.heap.size wr (wr.alloc (.cells #[.int .i64 0] 3)) := (Below.refl _ wr).alloc (Nat.le_refl _) _
        have HSrc := Lib.hid (intsR_cells (hR.next bl))
        have HOwn := Lib.hid (one_own wr wr.heap.size (Nat.le_refl _) 0)
        have hl5 : Hid ((intsL X).length = n * 1) := Lib.hid (by rw [HNn.out]; simp [intsL])
        have HBL := Lib.hid bl
        clear bl hR hnc hcn hI
        go_wp2_with (at_builtin; refine wpList_append_src _ rfl _ _ _ rfl wr.heap.size 3 i0 _ 1 8 Try.underlying26 hi hz0 hz1 hz2 rfl (by omega) _ 1 [.int .i64 0] rfl HOwn.out A n c (intsL X) rfl HA.out hl5.out HSrc.out (intsL_one X) (by simp only [maxLen]; omega) (by omega) HBL.out.size ?_; intro v5 w5 hr5 hg5 hat5)
        have R5 := Lib.hid (show w5.ownsRow wr.heap.size 3 1 v5 (n + 1) (intsL (0 :: X)) by rw [Nat.add_comm]; exact hr5)
        have B5 := Lib.hid (below_grew HBL.out hg5 (fun g hg => by cases hg; exact Nat.le_refl _))
        clear hr5 hg5 hat5 hbs
        go_wp2_with fail
        go_roundw
        case rel => exact ⟨0 :: X, Lib.hid (hb.out.trans (B5.out.mono hb.out.size)), Lib.hid (intSl_of_row R5.out), Lib.hid (hD.out.zero (by have := HNn.out; omega))⟩
        case measure =>
          have e1 := intSl_len (intSl_of_row R5.out)
          simp only [List.length_cons] at e1
          rw [e1]
          simp only [slLen]
          have := HNn.out
          omega
      · have hlt3 : ¬ (n : Int) < (m : Int) := by omega
        go_wp2_with fail
        generalize wr = W6 at *
        go_loopw [9] (fun v wr => ∃ Y : List Nat, Hid (Below W6.heap.size W6 wr) ∧ Hid (IntSl wr v Y) ∧ Hid (Dgs Y VY 200) ∧ Hid (Y.length ≤ n)) (fun v _ => 200 - slLen v)
        case atStart => exact ⟨Y0, Below.refl _ _, Lib.hid (J2.out.next hb.out), DY2, Lib.hid (by have := HM.out; omega)⟩
        case round =>
          obtain ⟨Y, hb2, hJ, hE, hL⟩ := hrel
          obtain ⟨G, q, cq, rfl, hq, hqc, hcq, hG, hGR⟩ := hJ.out
          have HQ := Lib.hid hq
          have HG := Lib.hid hG
          have q200 : q ≤ 200 := by rw [hq]; exact hE.out.len
          clear hq hG
          have HLE := Lib.hid (show q ≤ n by have := hL.out; have := HQ.out; omega)
          by_cases hlt4 : q < n
          · have hlt5 : (q : Int) < (n : Int) := by omega
            have hbs := bs1_26 wr 0
            have bl : Below wr.heap.size wr (wr.alloc (.cells #[.int .i64 0] 3)) := (Below.refl _ wr).alloc (Nat.le_refl _) _
            have HSrc := Lib.hid (intsR_cells (hGR.next bl))
            have HOwn := Lib.hid (one_own wr wr.heap.size (Nat.le_refl _) 0)
            have hl5 : Hid ((intsL Y).length = q * 1) := Lib.hid (by rw [HQ.out]; simp [intsL])
            have HBL := Lib.hid bl
            clear bl hGR hqc hcq hJ
            go_wp2_with (at_builtin; refine wpList_append_src _ rfl _ _ _ rfl wr.heap.size 3 i0 _ 1 8 Try.underlying26 hi hz0 hz1 hz2 rfl (by omega) _ 1 [.int .i64 0] rfl HOwn.out G q cq (intsL Y) rfl HG.out hl5.out HSrc.out (intsL_one Y) (by simp only [maxLen]; omega) (by omega) HBL.out.size ?_; intro v5 w5 hr5 hg5 hat5)
            have R5 := Lib.hid (show w5.ownsRow wr.heap.size 3 1 v5 (q + 1) (intsL (0 :: Y)) by rw [Nat.add_comm]; exact hr5)
            have B5 := Lib.hid (below_grew HBL.out hg5 (fun g hg => by cases hg; exact Nat.le_refl _))
            clear hr5 hg5 hat5 hbs
            go_wp2_with fail
            go_roundw
            case rel => exact ⟨0 :: Y, Lib.hid (hb2.out.trans (B5.out.mono hb2.out.size)), Lib.hid (intSl_of_row R5.out), Lib.hid (hE.out.zero (by have := HQ.out; omega)), Lib.hid (by have := HQ.out; simp only [List.length_cons]; omega)⟩
            case measure =>
              have e1 := intSl_len (intSl_of_row R5.out)
              simp only [List.length_cons] at e1
              rw [e1]
              simp only [slLen]
              have := HQ.out
              omega
          · have hlt5 : ¬ (q : Int) < (n : Int) := by omega
            have HLast := Lib.hid (show LevelP w vx vy ea eb (.returned (.tuple #[.slice A n c, .slice G q cq, .int .i64 eb])) wr by
              refine ⟨_, _, X, Y, by rw [HE.out, hEE.out], HB2.out.trans ((hb.out.trans (hb2.out.mono hb.out.size)).mono HB2.out.size), hI.out.next hb2.out, hJ.out, by have := HNn.out; have := HQ.out; have := HLE.out; omega, ?_, ?_⟩
              · rw [HE.out, HKA.out, Int.toNat_natCast, HVX.out]; exact hD.out
              · rw [HE.out, HKB.out, Int.toNat_natCast, HVY.out]; exact hE.out)
            clear hb hI hD hR hJ hE hGR
            go_wp2_with fail
            go_ret3
            exact HLast.out
  · have hEE : Hid (E = ea) := Lib.hid (by rw [← HE.out]; exact if_neg hlt)
    have wa' : IntKind.i64.wrap (ea - ea) = (ka : Int) := by have := wa; rw [hEE.out] at this; exact this
    have wb' : IntKind.i64.wrap (eb - ea) = (kb : Int) := by rw [← hEE.out]; exact wb
    clear wa wb
    obtain rfl : ka = 0 := by have := HKA.out; have := hEE.out; omega
    go_enter Try.func42, Try.ntmps42
    go_wp2_with fail
    generalize ((w.alloc (.cells #[.bool na, va, .int .i64 ea] 57)).alloc (.cells #[.bool nb, vb, .int .i64 eb] 57)) = V at *
    refine ((wide_c0 va x) V (HX.out.next HB.out) (by have := HDX.out.len; omega)).mono ?_
    rintro e w1 ⟨v1, rfl, b1, r1⟩
    have HB1 := Lib.hid (HB.out.trans (b1.mono HB.out.size))
    have bY1 := Lib.hid (bY.out.kept (b1.block _ bY.out.lt))
    have I1 := Lib.hid (intSl_of_row r1)
    have y1 := bY1.out.cell 1
    have y2 := bY1.out.cell 2
    simp only [List.getElem?_toArray, List.getElem?_cons_zero, List.getElem?_cons_succ] at y1 y2
    clear b1 r1 HB bX bY
    go_wp2_with fail
    refine ((fun W h1 h2 => wide_c vb y kb W h1 h2 (by omega)) w1 (HY.out.next HB1.out) (by have := HDY.out.len; omega)).mono ?_
    rintro e w2 ⟨v2, rfl, b2', r2⟩
    have HB2 := Lib.hid (HB1.out.trans (b2'.mono HB1.out.size))
    have I2 := Lib.hid (I1.out.next b2')
    have J2 := Lib.hid (intSl_of_row r2)
    have DX2 := Lib.hid (HDX.out.wide 0 200 (by omega))
    have DY2 := Lib.hid (HDY.out.wide kb 200 (by omega))
    clear b2' r2 HB1 bY1 I1 y1 y2 HDX HDY
    generalize WideL x 0 = X0 at *
    generalize WideL y kb = Y0 at *
    obtain ⟨VX, hVX⟩ : ∃ VX, vx * 10 ^ 0 = VX := ⟨_, rfl⟩
    obtain ⟨VY, hVY⟩ : ∃ VY, vy * 10 ^ kb = VY := ⟨_, rfl⟩
    rw [hVX] at DX2
    rw [hVY] at DY2
    have HVX := Lib.hid hVX
    have HVY := Lib.hid hVY
    clear hVX hVY
    obtain ⟨B, m, cb, rfl, hm, hmc, hcm, hB, hRB⟩ := J2.out
    have HM := Lib.hid hm
    have HRB := Lib.hid hRB
    have hm200 : m ≤ 200 := by rw [hm]; exact DY2.out.len
    have HBN := Lib.hid hB
    have HCM := Lib.hid hcm
    clear hm hRB hB hcm
    go_wp2_with fail
    go_loopw [8] (fun v wr => ∃ X : List Nat, Hid (Below w2.heap.size w2 wr) ∧ Hid (IntSl wr v X) ∧ Hid (Dgs X VX 200)) (fun v _ => 200 - slLen v)
    case atStart => exact ⟨X0, Below.refl _ _, I2, DX2⟩
    case round =>
      obtain ⟨X, hb, hI, hD⟩ := hrel
      obtain ⟨A, n, c, rfl, hn, hnc, hcn, hA, hR⟩ := hI.out
      have HNn := Lib.hid hn
      have HA := Lib.hid hA
      have n200 : n ≤ 200 := by rw [hn]; exact hD.out.len
      clear hn hA
      by_cases hlt2 : n < m
      · have hlt3 : (n : Int) < (m : Int) := by omega
        have hbs := bs1_26 wr 0
        have bl : Below wr.heap.size wr (wr.alloc (.cells #[.int .i64 0] 3)) := (Below.refl _ wr).alloc (Nat.le_refl _) _
        have HSrc := Lib.hid (intsR_cells (hR.next bl))
        have HOwn := Lib.hid (one_own wr wr.heap.size (Nat.le_refl _) 0)
        have hl5 : Hid ((intsL X).length = n * 1) := Lib.hid (by rw [HNn.out]; simp [intsL])
        have HBL := Lib.hid bl
        clear bl hR hnc hcn hI
        go_wp2_with (at_builtin; refine wpList_append_src _ rfl _ _ _ rfl wr.heap.size 3 i0 _ 1 8 Try.underlying26 hi hz0 hz1 hz2 rfl (by omega) _ 1 [.int .i64 0] rfl HOwn.out A n c (intsL X) rfl HA.out hl5.out HSrc.out (intsL_one X) (by simp only [maxLen]; omega) (by omega) HBL.out.size ?_; intro v5 w5 hr5 hg5 hat5)
        have R5 := Lib.hid (show w5.ownsRow wr.heap.size 3 1 v5 (n + 1) (intsL (0 :: X)) by rw [Nat.add_comm]; exact hr5)
        have B5 := Lib.hid (below_grew HBL.out hg5 (fun g hg => by cases hg; exact Nat.le_refl _))
        clear hr5 hg5 hat5 hbs
        go_wp2_with fail
        go_roundw
        case rel => exact ⟨0 :: X, Lib.hid (hb.out.trans (B5.out.mono hb.out.size)), Lib.hid (intSl_of_row R5.out), Lib.hid (hD.out.zero (by have := HNn.out; omega))⟩
        case measure =>
          have e1 := intSl_len (intSl_of_row R5.out)
          simp only [List.length_cons] at e1
          rw [e1]
          simp only [slLen]
          have := HNn.out
          omega
      · have hlt3 : ¬ (n : Int) < (m : Int) := by omega
        go_wp2_with fail
        generalize wr = W6 at *
        go_loopw [9] (fun v wr => ∃ Y : List Nat, Hid (Below W6.heap.size W6 wr) ∧ Hid (IntSl wr v Y) ∧ Hid (Dgs Y VY 200) ∧ Hid (Y.length ≤ n)) (fun v _ => 200 - slLen v)
        case atStart => exact ⟨Y0, Below.refl _ _, Lib.hid (J2.out.next hb.out), DY2, Lib.hid (by have := HM.out; omega)⟩
        case round =>
          obtain ⟨Y, hb2, hJ, hE, hL⟩ := hrel
          obtain ⟨G, q, cq, rfl, hq, hqc, hcq, hG, hGR⟩ := hJ.out
          have HQ := Lib.hid hq
          have HG := Lib.hid hG
          have q200 : q ≤ 200 := by rw [hq]; exact hE.out.len
          clear hq hG
          have HLE := Lib.hid (show q ≤ n by have := hL.out; have := HQ.out; omega)
          by_cases hlt4 : q < n
          · have hlt5 : (q : Int) < (n : Int) := by omega
            have hbs := bs1_26 wr 0
            have bl : Below wr.heap.size wr (wr.alloc (.cells #[.int .i64 0] 3)) := (Below.refl _ wr).alloc (Nat.le_refl _) _
            have HSrc := Lib.hid (intsR_cells (hGR.next bl))
            have HOwn := Lib.hid (one_own wr wr.heap.size (Nat.le_refl _) 0)
            have hl5 : Hid ((intsL Y).length = q * 1) := Lib.hid (by rw [HQ.out]; simp [intsL])
            have HBL := Lib.hid bl
            clear bl hGR hqc hcq hJ
            go_wp2_with (at_builtin; refine wpList_append_src _ rfl _ _ _ rfl wr.heap.size 3 i0 _ 1 8 Try.underlying26 hi hz0 hz1 hz2 rfl (by omega) _ 1 [.int .i64 0] rfl HOwn.out G q cq (intsL Y) rfl HG.out hl5.out HSrc.out (intsL_one Y) (by simp only [maxLen]; omega) (by omega) HBL.out.size ?_; intro v5 w5 hr5 hg5 hat5)
            have R5 := Lib.hid (show w5.ownsRow wr.heap.size 3 1 v5 (q + 1) (intsL (0 :: Y)) by rw [Nat.add_comm]; exact hr5)
            have B5 := Lib.hid (below_grew HBL.out hg5 (fun g hg => by cases hg; exact Nat.le_refl _))
            clear hr5 hg5 hat5 hbs
            go_wp2_with fail
            go_roundw
            case rel => exact ⟨0 :: Y, Lib.hid (hb2.out.trans (B5.out.mono hb2.out.size)), Lib.hid (intSl_of_row R5.out), Lib.hid (hE.out.zero (by have := HQ.out; omega)), Lib.hid (by have := HQ.out; simp only [List.length_cons]; omega)⟩
            case measure =>
              have e1 := intSl_len (intSl_of_row R5.out)
              simp only [List.length_cons] at e1
              rw [e1]
              simp only [slLen]
              have := HQ.out
              omega
          · have hlt5 : ¬ (q : Int) < (n : Int) := by omega
            have HLast := Lib.hid (show LevelP w vx vy ea eb (.returned (.tuple #[.slice A n c, .slice G q cq, .int .i64 ea])) wr by
              refine ⟨_, _, X, Y, by rw [HE.out, hEE.out], HB2.out.trans ((hb.out.trans (hb2.out.mono hb.out.size)).mono HB2.out.size), hI.out.next hb2.out, hJ.out, by have := HNn.out; have := HQ.out; have := HLE.out; omega, ?_, ?_⟩
              · rw [HE.out, HKA.out, Int.toNat_natCast, HVX.out]; exact hD.out
              · rw [HE.out, HKB.out, Int.toNat_natCast, HVY.out]; exact hE.out)
            clear hb hI hD hR hJ hE hGR
            go_wp2_with fail
            go_ret3
            exact HLast.out
end Go.Proofs.Ytifdpcjfjoekmaa
