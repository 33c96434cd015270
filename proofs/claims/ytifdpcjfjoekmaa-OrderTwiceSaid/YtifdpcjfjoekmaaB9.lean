/-
  counterpanelaw30.OrderTwice: its contract. Condition: the rows can be read, their ints fit 64 bits.
-/
import Derived.Test.YtifdpcjfjoekmaaB11
namespace Go.Proofs.Ytifdpcjfjoekmaa
open Go.RowKit

def put2 (W : World) (X : Nat) (a b : Value) : World := (W.setCell ⟨X, 0, none⟩ a).setCell ⟨X, 1, none⟩ b
theorem blk_put2 {W : World} {X : Nat} {ty : TypeId} {u0 u1 : Value} (h : Blk W X ty #[u0, u1]) (a b : Value) : Blk (put2 W X a b) X ty #[a, b] := by
  have := (h.store 0 a).store 1 b
  simp only [List.setIfInBounds_toArray, List.set_cons_succ, List.set_cons_zero] at this
  exact this
theorem blk_put2far {W : World} {X Y : Nat} {ty : TypeId} {cs : Array Value} (h : Blk W Y ty cs) (hne : Y ≠ X) (a b : Value) : Blk (put2 W X a b) Y ty cs := (h.far hne a).far hne b
theorem below_put2 {n : Nat} {w W : World} {X : Nat} (h : Below n w W) (hX : n ≤ X) (a b : Value) : Below n w (put2 W X a b) := (h.setCell hX a).setCell hX b
theorem two_true {a b : Bool} (h : 0 = (if a then 0 else 1) + (if b then 0 else 1)) : a = true ∧ b = true := by
  revert h
  cases a <;> cases b <;> simp
theorem Try.info34 : (Try.prog.info? 34).map (fun i => (i.zero, i.size, i.bytes)) = some (some (.slice none 0 0), 1, 24) := by kernel_rfl
def TrueP (w : World) (e : Ending) (w' : World) : Prop := e = .returned (.bool true) ∧ Below w.heap.size w w'
set_option maxRecDepth 100000 in
set_option maxHeartbeats 4000000 in
theorem twice_c (A : Option Addr) (n ca : Nat) (rs : List RowD) (ka kb : Int) (da db : Bool) (w : World) (hA : RowsW w A rs) (hn : rs.length = n) (hm : n ≤ 9223372036854775807) :
    Calls Try.prog 5 #[.slice A n ca, .agg #[.int .i64 ka, .bool da], .agg #[.int .i64 kb, .bool db]] w (TrueP w) := by
  have bV : Below w.heap.size w ((w.alloc (.cells #[.int .i64 ka, .bool da] 36)).alloc (.cells #[.int .i64 kb, .bool db] 36)) := ((Below.refl _ w).alloc (Nat.le_refl _) _).alloc (by simp) _
  have HB := Lib.hid bV
  have bX := Lib.hid ((Blk.new w 36 #[.int .i64 ka, .bool da]).alloc (.cells #[.int .i64 kb, .bool db] 36))
  have bY := Lib.hid (show Blk ((w.alloc (.cells #[.int .i64 ka, .bool da] 36)).alloc (.cells #[.int .i64 kb, .bool db] 36)) (w.heap.size + 1) 36 #[.int .i64 kb, .bool db] by
    have := Blk.new (w.alloc (.cells #[.int .i64 ka, .bool da] 36)) 36 #[.int .i64 kb, .bool db]
    rw [World.size_alloc] at this; exact this)
  have HA := Lib.hid hA
  have HN := Lib.hid hn
  clear bV hA hn
  go_enter Try.func5, Try.ntmps5
  go_wp2_with fail
  generalize ((w.alloc (.cells #[.int .i64 ka, .bool da] 36)).alloc (.cells #[.int .i64 kb, .bool db] 36)) = V at *
  refine (awake_c V).mono ?_
  rintro e w1 ⟨rfl, bb⟩
  have HB1 := Lib.hid (HB.out.trans (bb.mono HB.out.size))
  have bX1 := Lib.hid (bX.out.next' bb)
  have bY1 := Lib.hid (bY.out.next' bb)
  clear bb HB bX bY
  go_wp2_with fail
  refine (great_c A n ca rs w1 (HA.out.next HB1.out) HN.out hm).mono ?_
  rintro e w2 ⟨gr, rfl, hgr, bb⟩
  have HB2 := Lib.hid (HB1.out.trans (bb.mono HB1.out.size))
  have bX2 := Lib.hid (bX1.out.next' bb)
  have bY2 := Lib.hid (bY1.out.next' bb)
  have HGR := Lib.hid hgr
  clear bb HB1 bX1 bY1 hgr
  cases gr
  case true =>
    go_wp2_with fail
    go_ret
    exact ⟨rfl, HB2.out⟩
  have HROk := Lib.hid (HGR.out (by first | trivial | rfl))
  have hn60 : n ≤ 60 := by have := HROk.out.2; rw [HN.out] at this; exact this
  have HRows : Hid (∀ W, Below w.heap.size w W → RowsR W A rs) := Lib.hid (fun W hW => by
    have h := HA.out.next hW
    exact ⟨h.top, h.row, fun r hr => ⟨(h.len r hr).1, Nat.le_trans (HROk.out.1 r hr).2 (by decide)⟩⟩)
  clear HGR
  have c0 := bX2.out.cell 0
  have c1 := bX2.out.cell 1
  have c2 := bY2.out.cell 0
  have c3 := bY2.out.cell 1
  simp only [List.getElem?_toArray, List.getElem?_cons_zero, List.getElem?_cons_succ] at c0 c1 c2 c3
  go_wp2_with fail
  have HC : AllCells w2.drew [(⟨w.heap.size, 0, none⟩, .int .i64 ka), (⟨w.heap.size, 1, none⟩, .bool da), (⟨w.heap.size + 1, 0, none⟩, .int .i64 kb), (⟨w.heap.size + 1, 1, none⟩, .bool db)] := ⟨bX2.out.cell 0, bX2.out.cell 1, bY2.out.cell 0, bY2.out.cell 1, trivial⟩
  refine region_free _ [0, 1, 2, 3, 4, 5, 6, 7, 8, 9] 4 (by kernel_rfl) (by kernel_rfl) (by kernel_rfl) (by kernel_rfl) (by kernel_rfl) (fun _ _ _ _ _ h => h) HC ?_
  intro hne hu
  simp only [AllCells] at hu
  simp only [pick, List.take_succ_cons, List.take_zero, List.drop_succ_cons, List.drop_zero, List.cons_append, List.nil_append]
  repeat (go_big_quiet_step (fail))
  refine wpQuiet_nil ?_
  clear hne hu
  refine of_act (fun a ha => ?_)
  obtain ⟨V5, hV5⟩ : ∃ V, V = World.drew w2 := ⟨_, rfl⟩
  rw [← hV5] at HC ⊢
  have HB5 : Hid (Below w.heap.size w V5) := by rw [hV5]; exact Lib.hid HB2.out.drew
  have bX5 : Hid (Blk V5 w.heap.size 36 #[.int .i64 ka, .bool da]) := Lib.hid (by rw [hV5]; exact bX2.out)
  have bY5 : Hid (Blk V5 (w.heap.size + 1) 36 #[.int .i64 kb, .bool db]) := Lib.hid (by rw [hV5]; exact bY2.out)
  clear hV5 c0 c1 c2 c3
  have D0 := Lib.hid (show Duo V5 37 #[.int .i64 0, .bool false] undef undef true true false false undef undef undef undef V5 from ⟨Below.refl _ _, (fun _ => rfl), (fun _ => rfl), (fun e => nomatch e), (fun e => nomatch e), (fun e => nomatch e)⟩)
  refine anyN_dance (g := 2) (fun n listed a' W => ∃ b8 b9 v8 v9, listed = #[true, true, true, true, true, true, true, true, true, true, b8, b9, false, false] ∧ n = (if b8 then 0 else 1) + (if b9 then 0 else 1) ∧ a' = { tmps := (a.tmps.setIfInBounds 7 v8).setIfInBounds 8 v9, defers := [] } ∧ Hid (Duo V5 37 #[.int .i64 0, .bool false] undef undef true true b8 b9 undef undef v8 v9 W)) ?ready ?step ?done 2 _ a V5 ?start
  case start =>
    subst ha
    exact ⟨false, false, undef, undef, by kernel_rfl, rfl, by simp only [List.setIfInBounds_toArray, List.set_cons_succ, List.set_cons_zero], D0⟩
  case ready =>
    rintro n listed a' W ⟨b8, b9, v8, v9, rfl, hn, _, _⟩ hh
    cases b8 <;> cases b9 <;> first
      | (simp at hn; done)
      | (refine not_empty ?_ hh; kernel_rfl)
  case step =>
    rintro n listed a' W i ⟨b8, b9, v8, v9, rfl, hn, rfl, hD⟩ hi
    obtain ⟨hi1, hi2, hi3⟩ := ready_spec hi
    have h12 : i < 14 := hi1
    clear hi hi1
    subst ha
    simp only [List.setIfInBounds_toArray, List.set_cons_succ, List.set_cons_zero]
    have hcases : i = 10 ∨ i = 11 ∨ i = 12 ∨ i = 13 ∨ i < 10 := by omega
    rcases hcases with rfl | rfl | rfl | rfl | h10
    · have e8 : b8 = false := hi2
      subst e8
      have HCW := AllCells.below HC hD.out.below
      simp only [List.take_succ_cons, List.take_zero, List.drop_succ_cons, List.drop_zero]
      go_wp2_with fail
      refine ⟨AllCells.below HCW ((Below.refl _ W).alloc (Nat.le_refl _) _), true, b9, _, v9, ?_, ?_, ?_, Lib.hid hD.out.new8⟩
      · simp
      · simp at hn ⊢; omega
      · simp only [List.setIfInBounds_toArray, List.set_cons_succ, List.set_cons_zero]
    · have e9 : b9 = false := hi2
      subst e9
      have HCW := AllCells.below HC hD.out.below
      simp only [List.take_succ_cons, List.take_zero, List.drop_succ_cons, List.drop_zero]
      go_wp2_with fail
      refine ⟨AllCells.below HCW ((Below.refl _ W).alloc (Nat.le_refl _) _), b8, true, v8, _, ?_, ?_, ?_, Lib.hid hD.out.new9⟩
      · simp
      · simp at hn ⊢; omega
      · simp only [List.setIfInBounds_toArray, List.set_cons_succ, List.set_cons_zero]
    · have e8 : b8 = true := hi3 _ rfl ⟨10, .data⟩ (by simp) rfl
      have e9 : b9 = true := hi3 _ rfl ⟨11, .phase⟩ (by simp) rfl
      subst e8; subst e9
      exact absurd hn (by simp)
    · exact absurd (show false = true from hi3 _ rfl ⟨12, .chain⟩ (by simp) rfl) (by decide)
    · rcases (by omega : i = 0 ∨ i = 1 ∨ i = 2 ∨ i = 3 ∨ i = 4 ∨ i = 5 ∨ i = 6 ∨ i = 7 ∨ i = 8 ∨ i = 9) with rfl | rfl | rfl | rfl | rfl | rfl | rfl | rfl | rfl | rfl <;> exact absurd (show true = false from hi2) (by decide)
  case done =>
    rintro listed a' W ⟨b8, b9, v8, v9, rfl, hn, rfl, hD⟩
    obtain ⟨e8, e9⟩ := two_true hn
    subst e8; subst e9
    clear hn
    obtain ⟨X, rfl, hX, q8⟩ := hD.out.r8 rfl
    obtain ⟨Y, rfl, hY, q9⟩ := hD.out.r9 rfl
    have hXY : X ≠ Y := fun e => hD.out.ne rfl rfl (by rw [e])
    subst ha
    simp only [List.setIfInBounds_toArray, List.set_cons_succ, List.set_cons_zero]
    have hbW := Lib.hid (HB5.out.trans (hD.out.below.mono HB5.out.size))
    have hXw : w.heap.size ≤ X := Nat.le_trans HB5.out.size hX
    have hYw : w.heap.size ≤ Y := Nat.le_trans HB5.out.size hY
    have HCW := AllCells.below HC hD.out.below
    have B8 := Lib.hid q8
    have B9 := Lib.hid q9
    have bXW := Lib.hid (bX5.out.next' hD.out.below)
    have bYW := Lib.hid (bY5.out.next' hD.out.below)
    have HXY := Lib.hid (And.intro hXY (And.intro hXw (And.intro hYw (And.intro (Nat.lt_of_lt_of_le bX5.out.lt hX) (And.intro (Nat.lt_of_lt_of_le bY5.out.lt hX) (And.intro (Nat.lt_of_lt_of_le bX5.out.lt hY) (Nat.lt_of_lt_of_le bY5.out.lt hY)))))))
    clear hD hX hY q8 q9 hXY hXw hYw D0 HC HB5 HB2 bX5 bY5
    have f0 := B8.out.frozen 0
    have c0 : W.cell? ⟨X, 0, none⟩ = some (.int .i64 0) := B8.out.cell 0
    have f1 := B8.out.frozen 1
    have c1 : W.cell? ⟨X, 1, none⟩ = some (.bool false) := B8.out.cell 1
    have lB := B8.out.lt
    refine anyN_oneL 12 (by kernel_rfl) ?_
    simp only [List.take_succ_cons, List.take_zero, List.drop_succ_cons, List.drop_zero]
    go_wp2_with fail
    clear f0 f1 c0 c1 lB
    change (_ → AllCells (put2 W X (.int .i64 ka) (.bool da)) _) ∧ wpAnyN _ _ _ _ _ _ _ _ _ (put2 W X (.int .i64 ka) (.bool da))
    have B8' := Lib.hid (blk_put2 B8.out (.int .i64 ka) (.bool da))
    have B9' := Lib.hid (blk_put2far B9.out (fun e => HXY.out.1 e.symm) (.int .i64 ka) (.bool da))
    have HB' := Lib.hid (below_put2 hbW.out HXY.out.2.1 (.int .i64 ka) (.bool da))
    have bX3 := Lib.hid (blk_put2far (W := W) (X := X) (Y := w.heap.size) (ty := 36) (cs := #[.int .i64 ka, .bool da]) (bXW.out) (Nat.ne_of_lt HXY.out.2.2.2.1) (.int .i64 ka) (.bool da))
    have bY3 := Lib.hid (blk_put2far (W := W) (X := X) (Y := w.heap.size + 1) (ty := 36) (cs := #[.int .i64 kb, .bool db]) (bYW.out) (Nat.ne_of_lt HXY.out.2.2.2.2.1) (.int .i64 ka) (.bool da))
    generalize put2 W X (.int .i64 ka) (.bool da) = W2 at *
    refine And.intro (fun _ => ⟨bX3.out.cell 0, bX3.out.cell 1, bY3.out.cell 0, bY3.out.cell 1, trivial⟩) ?_
    have f0 := B9'.out.frozen 0
    have c0 : W2.cell? ⟨Y, 0, none⟩ = some (.int .i64 0) := B9'.out.cell 0
    have f1 := B9'.out.frozen 1
    have c1 : W2.cell? ⟨Y, 1, none⟩ = some (.bool false) := B9'.out.cell 1
    have lB := B9'.out.lt
    refine anyN_oneL 13 (by kernel_rfl) ?_
    simp only [List.take_succ_cons, List.take_zero, List.drop_succ_cons, List.drop_zero]
    go_wp2_with fail
    clear f0 f1 c0 c1 lB
    change (_ → AllCells (put2 W2 Y (.int .i64 kb) (.bool db)) _) ∧ wpAnyN _ _ _ _ _ _ _ _ _ (put2 W2 Y (.int .i64 kb) (.bool db))
    have B9'' := Lib.hid (blk_put2 B9'.out (.int .i64 kb) (.bool db))
    have B8'' := Lib.hid (blk_put2far B8'.out (fun e => HXY.out.1 e) (.int .i64 kb) (.bool db))
    have HB'' := Lib.hid (below_put2 HB'.out HXY.out.2.2.1 (.int .i64 kb) (.bool db))
    have bX4 := Lib.hid (blk_put2far bX3.out (show w.heap.size ≠ Y from Nat.ne_of_lt HXY.out.2.2.2.2.2.1) (.int .i64 kb) (.bool db))
    have bY4 := Lib.hid (blk_put2far bY3.out (show w.heap.size + 1 ≠ Y from Nat.ne_of_lt HXY.out.2.2.2.2.2.2) (.int .i64 kb) (.bool db))
    generalize put2 W2 Y (.int .i64 kb) (.bool db) = W3 at *
    refine And.intro (fun _ => ⟨bX4.out.cell 0, bX4.out.cell 1, bY4.out.cell 0, bY4.out.cell 1, trivial⟩) ?_
    refine ⟨by kernel_rfl, ?_⟩
    clear B8 B9 B8' B9' HB' bX3 bY3 bX4 bY4 bXW bYW hbW HCW bX2 bY2
    have c0 := B8''.out.cell 0
    have c1 := B8''.out.cell 1
    have c2 := B9''.out.cell 0
    have c3 := B9''.out.cell 1
    simp only [List.getElem?_toArray, List.getElem?_cons_zero, List.getElem?_cons_succ] at c0 c1 c2 c3
    go_wp2_with fail
    have HK1 : Hid (ManyR keyCells 2 (W3.alloc (.cells #[.int .i64 ka, .bool da, .int .i64 kb, .bool db] 37)) (some ⟨W3.heap.size, 0, none⟩) [⟨ka, da⟩, ⟨kb, db⟩]) := Lib.hid (manyR_two (Blk.new W3 37 #[.int .i64 ka, .bool da, .int .i64 kb, .bool db]) rfl)
    have bb : Below W3.heap.size W3 (W3.alloc (.cells #[.int .i64 ka, .bool da, .int .i64 kb, .bool db] 37)) := (Below.refl _ _).alloc (Nat.le_refl _) _
    have HB4 := Lib.hid (HB''.out.trans (bb.mono HB''.out.size))
    have BX4 := Lib.hid (B8''.out.next' bb)
    have BY4 := Lib.hid (B9''.out.next' bb)
    clear bb c0 c1 c2 c3 B8'' B9'' HB''
    generalize hW4 : W3.alloc (.cells #[.int .i64 ka, .bool da, .int .i64 kb, .bool db] 37) = W4 at *
    generalize W3.heap.size = K1 at *
    clear hW4
    refine (perm_c A _ n ca 2 2 rs [⟨ka, da⟩, ⟨kb, db⟩] W4 (HRows.out W4 HB4.out) HK1.out HN.out rfl hn60 (by omega) (fun r hr => (HROk.out.1 r hr).1)).mono ?_
    rintro e W5 ⟨g1, P, c1, rfl, lg1, bb, bP, sP⟩
    have HP := Lib.hid sP
    have BP5 := Lib.hid bP
    have HB5 := Lib.hid (HB4.out.trans (bb.mono HB4.out.size))
    have BX5 := Lib.hid (BX4.out.next' bb)
    have BY5 := Lib.hid (BY4.out.next' bb)
    clear bb bP sP lg1 HB4 BX4 BY4 HK1
    have c0 := BY5.out.cell 0
    have c1' := BY5.out.cell 1
    simp only [List.getElem?_toArray, List.getElem?_cons_zero, List.getElem?_cons_succ] at c0 c1'
    go_wp2_with fail
    have HK1 : Hid (ManyR keyCells 2 (W5.alloc (.cells #[.int .i64 kb, .bool db] 37)) (some ⟨W5.heap.size, 0, none⟩) [⟨kb, db⟩]) := Lib.hid (ManyR.one (Blk.new W5 37 #[.int .i64 kb, .bool db]))
    have bb : Below W5.heap.size W5 (W5.alloc (.cells #[.int .i64 kb, .bool db] 37)) := (Below.refl _ _).alloc (Nat.le_refl _) _
    have HB6 := Lib.hid (HB5.out.trans (bb.mono HB5.out.size))
    have BX6 := Lib.hid (BX5.out.next' bb)
    have BY6 := Lib.hid (BY5.out.next' bb)
    have BP6 := Lib.hid (BP5.out.next' bb)
    clear bb c0 c1' BX5 BY5 BP5 HB5
    generalize hW6 : W5.alloc (.cells #[.int .i64 kb, .bool db] 37) = W6 at *
    generalize W5.heap.size = K2 at *
    clear hW6
    refine (perm_c A _ n ca 1 1 rs [⟨kb, db⟩] W6 (HRows.out W6 HB6.out) HK1.out HN.out rfl hn60 (by omega) (fun r hr => (HROk.out.1 r hr).1)).mono ?_
    rintro e W7 ⟨g2, F, c2, rfl, lg2, bb, bF, sF⟩
    have HF := Lib.hid sF
    have BF7 := Lib.hid bF
    have HB7 := Lib.hid (HB6.out.trans (bb.mono HB6.out.size))
    have BX7 := Lib.hid (BX6.out.next' bb)
    have BY7 := Lib.hid (BY6.out.next' bb)
    have BP7 := Lib.hid (BP6.out.next' bb)
    clear bb bF sF lg2 HB6 BX6 BY6 BP6 HK1
    go_wp2_with fail
    have BF8 := BF7
    obtain ⟨i0, hi0, hz0, hz1, hz2⟩ := info_parts Try.info34
    go_loopw [11, 12, 13] (fun vm vq i wr => ∃ k : Nat, i = .int .i64 k ∧ k ≤ n ∧ Hid (MN W7 rs P F k vm vq wr)) (fun _ _ i _ => n - (intOf i).toNat)
    case atStart => exact ⟨0, rfl, Nat.zero_le _, Lib.hid (MN.start W7 rs P F)⟩
    case round =>
      obtain ⟨k, rfl, hk, hMN⟩ := hrel
      by_cases hlt : k < n
      · obtain ⟨f, hf⟩ : ∃ f, D F k = f := ⟨_, rfl⟩
        obtain ⟨p, hp⟩ : ∃ p, D P k = p := ⟨_, rfl⟩
        have hfn : f < n := by rw [← hf]; exact HF.out.lt hlt
        have hpn : p < n := by rw [← hp]; exact HP.out.lt hlt
        have HFP := Lib.hid (And.intro hf hp)
        have hR7 := HRows.out W7 HB7.out
        obtain ⟨bA, oA, hA7, lA, hcA⟩ := hR7.top (fun e => by have := HN.out; rw [e] at this; simp at this; omega)
        have gF := hcA f (by rw [HN.out]; exact hfn) 0 _ rfl
        have gP := hcA p (by rw [HN.out]; exact hpn) 0 _ rfl
        have eF : rs[f]'(by rw [HN.out]; exact hfn) = rs.getD f default := by simp [List.getD, show f < rs.length by rw [HN.out]; exact hfn]
        have eP : rs[p]'(by rw [HN.out]; exact hpn) = rs.getD p default := by simp [List.getD, show p < rs.length by rw [HN.out]; exact hpn]
        rw [eF] at gF
        rw [eP] at gP
        simp only [Nat.add_zero, Nat.mul_one] at gF gP
        have fF : W7.cell? ⟨g2, k, none⟩ = some (.int .i64 f) := by rw [BF7.out.cell]; simp [natA, ← hf, D, List.getD, show k < F.length by rw [HF.out.length]; exact hlt]
        have fP : W7.cell? ⟨g1, k, none⟩ = some (.int .i64 p) := by rw [BP7.out.cell]; simp [natA, ← hp, D, List.getD, show k < P.length by rw [HP.out.length]; exact hlt]
        generalize hrF : rs.getD f default = rF at *
        generalize hrP : rs.getD p default = rP at *
        have HRF := Lib.hid (And.intro hrF hrP)
        clear hf hp hrF hrP eF eP hcA hR7
        have HC7 : AllCells W7 [(⟨g2, k, none⟩, .int .i64 f), (⟨g1, k, none⟩, .int .i64 p), (⟨bA, oA + f, none⟩, .slice rF.A rF.n rF.c), (⟨bA, oA + p, none⟩, .slice rP.A rP.n rP.c)] := ⟨fF, fP, gF, gP, trivial⟩
        obtain ⟨q1, q2, q3, q4, _⟩ := AllCells.below HC7 hMN.out.below
        clear fF fP gF gP
        subst hA7
        have i0' : (0 : Int) ≤ (k : Int) := by omega
        have i1' : (k : Int) < (n : Int) := by omega
        have j0' : (0 : Int) ≤ (f : Int) := by omega
        have j1' : (f : Int) < (n : Int) := by omega
        have k0' : (0 : Int) ≤ (p : Int) := by omega
        have k1' : (p : Int) < (n : Int) := by omega
        have n1 : decide ((f : Int) < 0) = false := decide_eq_false (by omega)
        have n2 : decide ((n : Int) ≤ (f : Int)) = false := decide_eq_false (by omega)
        have n3 : decide ((p : Int) < 0) = false := decide_eq_false (by omega)
        have n4 : decide ((n : Int) ≤ (p : Int)) = false := decide_eq_false (by omega)
        go_wp2_with fail
        have HCd : AllCells (World.drew wr) [(⟨g2, k, none⟩, .int .i64 f), (⟨g1, k, none⟩, .int .i64 p), (⟨bA, oA + f, none⟩, .slice rF.A rF.n rF.c), (⟨bA, oA + p, none⟩, .slice rP.A rP.n rP.c)] := ⟨q1, q2, q3, q4, trivial⟩
        clear q1 q2 q3 q4
        refine region_free _ [0, 1, 2, 3, 4, 5, 6, 7, 10, 11, 12, 13, 14, 15, 16, 17] 6 (by kernel_rfl) (by kernel_rfl) (by kernel_rfl) (by kernel_rfl) (by kernel_rfl) (fun _ _ _ _ _ h => h) HCd ?_
        intro hne hu
        simp only [AllCells] at hu
        simp only [pick, List.take_succ_cons, List.take_zero, List.drop_succ_cons, List.drop_zero, List.cons_append, List.nil_append]
        repeat (go_big_quiet_step (fail))
        refine wpQuiet_nil ?_
        clear hne hu
        refine of_act (fun a ha => ?_)
        have D0 := Lib.hid (hMN.out.app (W' := World.drew wr) ((Below.refl _ _).drew) (.slice rF.A rF.n rF.c) (.slice rP.A rP.n rP.c) u96 u97 u106 u107)
        refine anyN_dance (g := 2) (fun N listed a' W => ∃ b8 b9 b18 b19 v96 v97 v106 v107, listed = #[true, true, true, true, true, true, true, true, b8, b9, true, true, true, true, true, true, true, true, b18, b19, false, false] ∧ N = (if b8 then 0 else 1) + (if b9 then 0 else 1) + (if b18 then 0 else 1) + (if b19 then 0 else 1) ∧ (b9 = true → b8 = true) ∧ (b19 = true → b18 = true ∧ b9 = true) ∧ a' = { tmps := (((a.tmps.setIfInBounds 96 v96).setIfInBounds 97 v97).setIfInBounds 106 v106).setIfInBounds 107 v107, defers := [] } ∧ Hid (App W7 k (rowsL rs (F.take k)) (rowsL rs (P.take k)) (.slice rF.A rF.n rF.c) (.slice rP.A rP.n rP.c) u11 u12 b8 b9 b18 b19 v96 v97 v106 v107 W)) ?ready ?step ?done 4 _ a _ ?start
        case start =>
          subst ha
          exact ⟨false, false, false, false, u96, u97, u106, u107, by kernel_rfl, rfl, (fun e => nomatch e), (fun e => nomatch e), by simp only [List.setIfInBounds_toArray, List.set_cons_succ, List.set_cons_zero], D0⟩
        case ready =>
          rintro N listed a' W ⟨b8, b9, b18, b19, v96, v97, v106, v107, rfl, hn, h98, h19, _, _⟩ hh
          cases b8 <;> cases b9 <;> cases b18 <;> cases b19 <;> first
            | (have := h98 rfl; cases this; done)
            | (have := (h19 rfl).1; cases this; done)
            | (have := (h19 rfl).2; cases this; done)
            | (simp at hn; done)
            | (refine not_empty ?_ hh; kernel_rfl)
        case step =>
          rintro N listed a' W i ⟨b8, b9, b18, b19, v96, v97, v106, v107, rfl, hn, h98, h19, rfl, hD⟩ hi
          obtain ⟨hi1, hi2, hi3⟩ := ready_spec hi
          have h22 : i < 22 := hi1
          clear hi hi1
          subst ha
          simp only [List.setIfInBounds_toArray, List.set_cons_succ, List.set_cons_zero]
          have hcases : i = 8 ∨ i = 9 ∨ i = 18 ∨ i = 19 ∨ i = 20 ∨ i = 21 ∨ i < 8 ∨ (10 ≤ i ∧ i < 18) := by omega
          clear h22
          rcases hcases with rfl | rfl | rfl | rfl | rfl | rfl | hl | hl
          · have e8 : b8 = false := hi2
            subst e8
            have e9 : b9 = false := by cases b9; rfl; exact absurd (h98 rfl) (by decide)
            subst e9
            simp only [List.take_succ_cons, List.take_zero, List.drop_succ_cons, List.drop_zero]
            go_wp2_with fail
            refine ⟨AllCells.below HC7 hD.out.new8.below, true, false, b18, b19, _, v97, v106, v107, ?_, ?_, (fun e => nomatch e), h19, ?_, Lib.hid hD.out.new8⟩
            · simp
            · simp at hn ⊢; omega
            · simp only [List.setIfInBounds_toArray, List.set_cons_succ, List.set_cons_zero]
          · have e9 : b9 = false := hi2
            have e8 : b8 = true := hi3 _ rfl ⟨8, .data⟩ (by simp) rfl
            subst e9; subst e8
            have e19 : b19 = false := by cases b19; rfl; exact absurd (h19 rfl).2 (by decide)
            subst e19
            obtain ⟨Z, rfl, bZ⟩ := hD.out.r8 rfl rfl
            have ow := hD.out.o9 rfl
            simp only [List.take_succ_cons, List.take_zero, List.drop_succ_cons, List.drop_zero]
            refine wpList_append_src _ rfl _ _ _ rfl W7.heap.size 34 i0 _ 1 24 Try.underlying22 hi0 hz0 hz1 hz2 rfl (by omega) u11 k _ rfl ow (some ⟨Z, 0, none⟩) 1 1 [.slice rF.A rF.n rF.c] rfl (fun e => nomatch e) rfl ?_ (by simp [Value.oneCell']) (by simp only [maxLen]; omega) (by omega) hD.out.below.size ?_
            · intro ad e j u hj
              cases e
              have hj0 : j = 0 := by
                have := (List.getElem?_eq_some_iff.1 hj).1
                simpa using this
              subst hj0
              change W.cell? ⟨Z, 0, none⟩ = some u
              rw [bZ.cell 0]
              simpa using hj
            · intro v' w' r1 r2 r3
              have hD' := Lib.hid (hD.out.grow9 r1 r2 r3)
              refine And.intro (AllCells.below HC7 hD'.out.below) ⟨true, true, b18, false, _, v', v106, v107, ?_, ?_, fun _ => rfl, (fun e => nomatch e), ?_, hD'⟩
              · simp
              · simp at hn ⊢; omega
              · simp only [Act.put, List.setIfInBounds_toArray, List.set_cons_succ, List.set_cons_zero]
          · have e18 : b18 = false := hi2
            subst e18
            have e19 : b19 = false := by cases b19; rfl; exact absurd (h19 rfl).1 (by decide)
            subst e19
            simp only [List.take_succ_cons, List.take_zero, List.drop_succ_cons, List.drop_zero]
            go_wp2_with fail
            refine ⟨AllCells.below HC7 hD.out.new18.below, b8, b9, true, false, v96, v97, _, v107, ?_, ?_, h98, (fun e => nomatch e), ?_, Lib.hid hD.out.new18⟩
            · simp
            · simp at hn ⊢; omega
            · simp only [List.setIfInBounds_toArray, List.set_cons_succ, List.set_cons_zero]
          · have e19 : b19 = false := hi2
            have e18 : b18 = true := hi3 _ rfl ⟨18, .data⟩ (by simp) rfl
            have e9 : b9 = true := hi3 _ rfl ⟨9, .chain⟩ (by simp) rfl
            subst e19; subst e18; subst e9
            have e8 : b8 = true := h98 rfl
            subst e8
            obtain ⟨Z, rfl, bZ, _⟩ := hD.out.r18 rfl rfl
            have ow := hD.out.o19 rfl
            simp only [List.take_succ_cons, List.take_zero, List.drop_succ_cons, List.drop_zero]
            refine wpList_append_src _ rfl _ _ _ rfl W7.heap.size 34 i0 _ 1 24 Try.underlying22 hi0 hz0 hz1 hz2 rfl (by omega) u12 k _ rfl ow (some ⟨Z, 0, none⟩) 1 1 [.slice rP.A rP.n rP.c] rfl (fun e => nomatch e) rfl ?_ (by simp [Value.oneCell']) (by simp only [maxLen]; omega) (by omega) hD.out.below.size ?_
            · intro ad e j u hj
              cases e
              have hj0 : j = 0 := by
                have := (List.getElem?_eq_some_iff.1 hj).1
                simpa using this
              subst hj0
              change W.cell? ⟨Z, 0, none⟩ = some u
              rw [bZ.cell 0]
              simpa using hj
            · intro v' w' r1 r2 r3
              have hD' := Lib.hid (hD.out.grow19 r1 r2 r3)
              refine And.intro (AllCells.below HC7 hD'.out.below) ⟨true, true, true, true, _, v97, _, v', ?_, ?_, fun _ => rfl, fun _ => ⟨rfl, rfl⟩, ?_, hD'⟩
              · simp
              · first | (simp at hn ⊢; omega) | (simp at hn ⊢; done)
              · simp only [Act.put, List.setIfInBounds_toArray, List.set_cons_succ, List.set_cons_zero]
          · exact absurd (show true = true → b19 = true from fun _ => hi3 _ rfl ⟨19, .chain⟩ (by simp) rfl) (fun e => by
              have e19 := e rfl
              have e9 := (h19 e19).2
              have e18 := (h19 e19).1
              have e8 := h98 e9
              subst e19; subst e9; subst e18; subst e8
              exact absurd hn (by simp))
          · exact absurd (show false = true from hi3 _ rfl ⟨20, .chain⟩ (by simp) rfl) (by decide)
          · rcases (by omega : i = 0 ∨ i = 1 ∨ i = 2 ∨ i = 3 ∨ i = 4 ∨ i = 5 ∨ i = 6 ∨ i = 7) with rfl | rfl | rfl | rfl | rfl | rfl | rfl | rfl <;> exact absurd (show true = false from hi2) (by decide)
          · rcases (by omega : i = 10 ∨ i = 11 ∨ i = 12 ∨ i = 13 ∨ i = 14 ∨ i = 15 ∨ i = 16 ∨ i = 17) with rfl | rfl | rfl | rfl | rfl | rfl | rfl | rfl <;> exact absurd (show true = false from hi2) (by decide)
        case done =>
          rintro listed a' W ⟨b8, b9, b18, b19, v96, v97, v106, v107, rfl, hn, _, _, rfl, hD⟩
          obtain ⟨e8, e9, e18, e19⟩ := four_true hn
          clear hn
          subst e8; subst e9; subst e18; subst e19
          subst ha
          simp only [List.setIfInBounds_toArray, List.set_cons_succ, List.set_cons_zero]
          have HMN := Lib.hid (show MN W7 rs P F (k + 1) v97 v107 W from ⟨hD.out.below, by
            rw [rowsL_step (by rw [HF.out.length]; exact hlt), HFP.out.1, HRF.out.1]; exact hD.out.r9 rfl, by
            rw [rowsL_step (by rw [HP.out.length]; exact hlt), HFP.out.2, HRF.out.2]; exact hD.out.r19 rfl, hD.out.ne⟩)
          have HCW := AllCells.below HC7 hD.out.below
          clear hD D0 HCd
          refine anyN_more [20, 21] 0 (by kernel_rfl) (by kernel_rfl) (by kernel_rfl) (by kernel_rfl) (fun _ _ _ _ _ h => h) HCW ?_
          intro hne hu
          simp only [AllCells] at hu
          simp only [pick, List.take_succ_cons, List.take_zero, List.drop_succ_cons, List.drop_zero, List.cons_append, List.nil_append]
          repeat (go_big_quiet_step (fail))
          refine wpQuiet_nil ?_
          clear hne hu
          refine ⟨by kernel_rfl, ?_⟩
          have wk : IntKind.i64.wrap ((k : Int) + 1) = (k : Int) + 1 := IntWalk.i64_in _ (by omega)
          go_wp2_with fail
          go_roundw
          case rel => exact ⟨k + 1, by go_num, by omega, HMN⟩
          case measure => simp [intOf]; omega
      · obtain rfl : k = n := by omega
        have hkk : decide ((k : Int) < (k : Int)) = false := decide_eq_false (by omega)
        have tF : F.take k = F := List.take_of_length_le (by rw [HF.out.length]; exact Nat.le_refl _)
        have tP : P.take k = P := List.take_of_length_le (by rw [HP.out.length]; exact Nat.le_refl _)
        have hBw := Lib.hid (HB7.out.trans (hMN.out.below.mono HB7.out.size))
        obtain ⟨Bm, cm, rfl, _⟩ := rowsR_of (tF ▸ hMN.out.m) (fun i hi => by rw [HN.out]; exact List.mem_range.1 (HF.out.perm.mem_iff.1 hi)) HF.out.length (Below.refl _ wr) (HRows.out wr hBw.out)
        obtain ⟨Bn, cn, rfl, _⟩ := rowsR_of (tP ▸ hMN.out.n) (fun i hi => by rw [HN.out]; exact List.mem_range.1 (HP.out.perm.mem_iff.1 hi)) HP.out.length (Below.refl _ wr) (HRows.out wr hBw.out)
        have HRM : Hid (∀ U, Below (World.drew wr).heap.size (World.drew wr) U → RowsR U Bm (F.map fun i => rs.getD i default)) := Lib.hid (fun U q => by
          obtain ⟨B, c, e, h⟩ := rowsR_of (tF ▸ hMN.out.m) (fun i hi => by rw [HN.out]; exact List.mem_range.1 (HF.out.perm.mem_iff.1 hi)) HF.out.length (((Below.refl _ wr).drew).trans q) (HRows.out wr hBw.out)
          cases e; exact h)
        have HRN : Hid (∀ U, Below (World.drew wr).heap.size (World.drew wr) U → RowsR U Bn (P.map fun i => rs.getD i default)) := Lib.hid (fun U q => by
          obtain ⟨B, c, e, h⟩ := rowsR_of (tP ▸ hMN.out.n) (fun i hi => by rw [HN.out]; exact List.mem_range.1 (HP.out.perm.mem_iff.1 hi)) HP.out.length (((Below.refl _ wr).drew).trans q) (HRows.out wr hBw.out)
          cases e; exact h)
        have HOKm : Hid (∀ d : List Nat, (∀ i ∈ d, i < k) → ∀ r ∈ (d.map fun i => rs.getD i default), RowOk r.l) := Lib.hid (fun d hd r hr => by
          obtain ⟨i, hi, rfl⟩ := List.mem_map.1 hr
          have : i < rs.length := by rw [HN.out]; exact hd i hi
          simp only [List.getD, List.getElem?_eq_getElem this, Option.getD_some]
          exact (HROk.out.1 _ (List.getElem_mem this)).1)
        have HFin := Lib.hid (show ∀ i ∈ F, i < k from fun i hi => List.mem_range.1 (HF.out.perm.mem_iff.1 hi))
        have HPin := Lib.hid (show ∀ i ∈ P, i < k from fun i hi => List.mem_range.1 (HP.out.perm.mem_iff.1 hi))
        have BXw := Lib.hid (BX7.out.next' hMN.out.below)
        have BYw := Lib.hid (BY7.out.next' hMN.out.below)
        have BPw := Lib.hid (BP7.out.next' hMN.out.below)
        have BFw := Lib.hid (BF7.out.next' hMN.out.below)
        have HC : AllCells (World.drew wr) [(⟨X, 0, none⟩, .int .i64 ka), (⟨X, 1, none⟩, .bool da), (⟨Y, 0, none⟩, .int .i64 kb), (⟨Y, 1, none⟩, .bool db)] := ⟨BXw.out.cell 0, BXw.out.cell 1, BYw.out.cell 0, BYw.out.cell 1, trivial⟩
        clear tF tP BX7 BY7 BP7 BF7 BF8 hMN HB7
        go_wp2_with fail
        refine region_free _ [0, 1, 4, 5, 6] 6 (by kernel_rfl) (by kernel_rfl) (by kernel_rfl) (by kernel_rfl) (by kernel_rfl) (fun _ _ _ _ _ h => h) HC ?_
        intro hne hu
        simp only [AllCells] at hu
        simp only [pick, List.take_succ_cons, List.take_zero, List.drop_succ_cons, List.drop_zero, List.cons_append, List.nil_append]
        repeat (go_big_quiet_step (fail))
        refine wpQuiet_nil ?_
        clear hne hu
        refine of_act (fun a ha => ?_)
        obtain ⟨V, hV⟩ : ∃ V, V = World.drew wr := ⟨_, rfl⟩
        rw [← hV] at HC HRM HRN ⊢
        have hBV : Hid (Below w.heap.size w V) := by rw [hV]; exact Lib.hid hBw.out.drew
        have BPv : Hid (Blk V g1 3 (natA P)) := by rw [hV]; exact Lib.hid BPw.out
        have BFv : Hid (Blk V g2 3 (natA F)) := by rw [hV]; exact Lib.hid BFw.out
        clear hV hBw BXw BYw BPw BFw
        have D0 := Lib.hid (show Two V k ka kb da db (cmpAt (F.map fun i => rs.getD i default) [⟨ka, da⟩]) (cmpAt (P.map fun i => rs.getD i default) [⟨ka, da⟩, ⟨kb, db⟩]) false false false false undef undef undef undef V from ⟨Below.refl _ _, (fun e => nomatch e), (fun e => nomatch e), (fun e => nomatch e), (fun e => nomatch e)⟩)
        generalize hcm : cmpAt (F.map fun i => rs.getD i default) [⟨ka, da⟩] = fm at D0
        generalize hcn : cmpAt (P.map fun i => rs.getD i default) [⟨ka, da⟩, ⟨kb, db⟩] = fn at D0
        have HCM := Lib.hid hcm.symm
        have HCN := Lib.hid hcn.symm
        clear hcm hcn
        refine anyN_dance (g := 2) (fun N listed a' W => ∃ b2 b3 b7 b8 v2 v3 v7 v8, listed = #[true, true, b2, b3, true, true, true, b7, b8, false, false] ∧ N = (if b2 then 0 else 1) + (if b3 then 0 else 1) + (if b7 then 0 else 1) + (if b8 then 0 else 1) ∧ (b3 = true → b2 = true) ∧ (b8 = true → b7 = true ∧ b3 = true) ∧ a' = { tmps := (((a.tmps.setIfInBounds 110 v2).setIfInBounds 111 v3).setIfInBounds 115 v7).setIfInBounds 116 v8, defers := [] } ∧ Hid (Two V k ka kb da db fm fn b2 b3 b7 b8 v2 v3 v7 v8 W)) ?ready ?step ?done 4 _ a _ ?start
        case start =>
          subst ha
          exact ⟨false, false, false, false, undef, undef, undef, undef, by kernel_rfl, rfl, (fun e => nomatch e), (fun e => nomatch e), by simp only [List.setIfInBounds_toArray, List.set_cons_succ, List.set_cons_zero], D0⟩
        case ready =>
          rintro N listed a' W ⟨b2, b3, b7, b8, v2, v3, v7, v8, rfl, hn, h98, h19, _, _⟩ hh
          cases b2 <;> cases b3 <;> cases b7 <;> cases b8 <;> first
            | (have := h98 rfl; cases this; done)
            | (have := (h19 rfl).1; cases this; done)
            | (have := (h19 rfl).2; cases this; done)
            | (simp at hn; done)
            | (refine not_empty ?_ hh; kernel_rfl)
        case step =>
          rintro N listed a' W i ⟨b2, b3, b7, b8, v2, v3, v7, v8, rfl, hn, h98, h19, rfl, hD⟩ hi
          obtain ⟨hi1, hi2, hi3⟩ := ready_spec hi
          have h11 : i < 11 := hi1
          clear hi hi1
          subst ha
          simp only [List.setIfInBounds_toArray, List.set_cons_succ, List.set_cons_zero]
          have hcases : i = 2 ∨ i = 3 ∨ i = 7 ∨ i = 8 ∨ i = 9 ∨ i = 10 ∨ i = 0 ∨ i = 1 ∨ i = 4 ∨ i = 5 ∨ i = 6 := by omega
          clear h11
          rcases hcases with rfl | rfl | rfl | rfl | rfl | rfl | rfl | rfl | rfl | rfl | rfl
          · have e2 : b2 = false := hi2
            subst e2
            have e3 : b3 = false := by cases b3; rfl; exact absurd (h98 rfl) (by decide)
            subst e3
            simp only [List.take_succ_cons, List.take_zero, List.drop_succ_cons, List.drop_zero]
            go_wp2_with fail
            refine ⟨AllCells.below HC hD.out.new2.below, true, false, b7, b8, _, v3, v7, v8, ?_, ?_, (fun e => nomatch e), h19, ?_, Lib.hid hD.out.new2⟩
            · simp
            · simp at hn ⊢; omega
            · simp only [List.setIfInBounds_toArray, List.set_cons_succ, List.set_cons_zero]
          · have e3 : b3 = false := hi2
            have e2 : b2 = true := hi3 _ rfl ⟨2, .data⟩ (by simp) rfl
            subst e3; subst e2
            simp only [List.take_succ_cons, List.take_zero, List.drop_succ_cons, List.drop_zero]
            go_wp2_with fail
            refine (hD.out.call3 HRM.out (by simpa using HF.out.length) hn60 (HOKm.out F HFin.out) HCM.out).mono ?_
            rintro e W' ⟨v', rfl, h2⟩
            have hD' := Lib.hid h2
            go_wp2_with fail
            refine ⟨AllCells.below HC hD'.out.below, true, true, b7, b8, v2, v', v7, v8, ?_, ?_, fun _ => rfl, (fun e => ⟨(h19 e).1, rfl⟩), ?_, hD'⟩
            · simp
            · simp at hn ⊢; omega
            · simp only [List.setIfInBounds_toArray, List.set_cons_succ, List.set_cons_zero]
          · have e7 : b7 = false := hi2
            subst e7
            have e8 : b8 = false := by cases b8; rfl; exact absurd (h19 rfl).1 (by decide)
            subst e8
            simp only [List.take_succ_cons, List.take_zero, List.drop_succ_cons, List.drop_zero]
            go_wp2_with fail
            refine ⟨AllCells.below HC hD.out.new7.below, b2, b3, true, false, v2, v3, _, v8, ?_, ?_, h98, (fun e => nomatch e), ?_, Lib.hid hD.out.new7⟩
            · simp
            · simp at hn ⊢; omega
            · simp only [List.setIfInBounds_toArray, List.set_cons_succ, List.set_cons_zero]
          · have e8 : b8 = false := hi2
            have e7 : b7 = true := hi3 _ rfl ⟨7, .data⟩ (by simp) rfl
            have e3 : b3 = true := hi3 _ rfl ⟨3, .chain⟩ (by simp) rfl
            subst e8; subst e7; subst e3
            simp only [List.take_succ_cons, List.take_zero, List.drop_succ_cons, List.drop_zero]
            go_wp2_with fail
            refine (hD.out.call8 HRN.out (by simpa using HP.out.length) hn60 (HOKm.out P HPin.out) HCN.out).mono ?_
            rintro e W' ⟨v', rfl, h2⟩
            have hD' := Lib.hid h2
            go_wp2_with fail
            refine ⟨AllCells.below HC hD'.out.below, b2, true, true, true, v2, v3, v7, v', ?_, ?_, (fun _ => by first | exact h98 rfl | exact h98 trivial), (fun e => ⟨rfl, rfl⟩), ?_, hD'⟩
            · simp
            · simp at hn ⊢; omega
            · simp only [List.setIfInBounds_toArray, List.set_cons_succ, List.set_cons_zero]
          · have e8 : b8 = true := hi3 _ rfl ⟨8, .chain⟩ (by simp) rfl
            have e7 := (h19 e8).1
            have e3 := (h19 e8).2
            have e2 := h98 e3
            subst e8; subst e7; subst e3; subst e2
            exact absurd hn (by simp)
          · exact absurd (show false = true from hi3 _ rfl ⟨9, .chain⟩ (by simp) rfl) (by decide)
          all_goals exact absurd (show true = false from hi2) (by decide)
        case done =>
          rintro listed a' W ⟨b2, b3, b7, b8, v2, v3, v7, v8, rfl, hn, _, _, rfl, hD⟩
          obtain ⟨e2, e3, e7, e8⟩ := four_true hn
          clear hn
          subst e2; subst e3; subst e7; subst e8
          obtain ⟨g3, c3, d3, rfl, B3, S3⟩ := hD.out.r3 rfl
          obtain ⟨g4, c4, d4, rfl, B4, S4⟩ := hD.out.r8 rfl
          subst ha
          simp only [List.setIfInBounds_toArray, List.set_cons_succ, List.set_cons_zero]
          have HCW := AllCells.below HC hD.out.below
          have HBW := Lib.hid (hBV.out.trans (hD.out.below.mono hBV.out.size))
          have BP9 := Lib.hid (BPv.out.next' hD.out.below)
          have BF9 := Lib.hid (BFv.out.next' hD.out.below)
          have B3' := Lib.hid B3
          have B4' := Lib.hid B4
          have HT1 := Lib.hid (twice_first HP.out HF.out (fun i hi => rowAt_map (by rw [HF.out.length]; exact hi)) (by rw [HCM.out] at S3; exact S3))
          have HT2 := Lib.hid (twice_again HP.out (fun i hi => rowAt_map (by rw [HP.out.length]; exact hi)) (by rw [HCN.out] at S4; exact S4))
          have HL3 := Lib.hid S3
          have HL4 := Lib.hid S4
          clear hD D0 HC B3 B4 S3 S4
          refine anyN_more [9, 10] 0 (by kernel_rfl) (by kernel_rfl) (by kernel_rfl) (by kernel_rfl) (fun _ _ _ _ _ h => h) HCW ?_
          intro hne hu
          simp only [AllCells] at hu
          simp only [pick, List.take_succ_cons, List.take_zero, List.drop_succ_cons, List.drop_zero, List.cons_append, List.nil_append]
          repeat (go_big_quiet_step (fail))
          refine wpQuiet_nil ?_
          clear hne hu
          refine ⟨by kernel_rfl, ?_⟩
          clear HCW HRM HRN HOKm HFin HPin BPv BFv hBV
          go_wp2_with fail
          go_loopw [16] (fun i wr => ∃ j : Nat, i = .int .i64 j ∧ j ≤ k ∧ Hid (Below W.heap.size W wr)) (fun i _ => k - (intOf i).toNat)
          case atStart => exact ⟨0, rfl, Nat.zero_le _, Lib.hid (Below.refl _ _)⟩
          case round =>
            obtain ⟨j, rfl, hj, hb⟩ := hrel
            by_cases hlt2 : j < k
            · obtain ⟨x, hx⟩ : ∃ x, D d3 j = x := ⟨_, rfl⟩
              obtain ⟨y, hy⟩ : ∃ y, D P j = y := ⟨_, rfl⟩
              have hxk : x < k := by rw [← hx]; exact HL3.out.lt hlt2
              have t1 := HT1.out j hlt2
              rw [hx, hy] at t1
              have t2 := HT2.out j hlt2
              have z1 : W.cell? ⟨g3, j, none⟩ = some (.int .i64 x) := by rw [B3'.out.cell]; simp [natA, ← hx, D, List.getD, show j < d3.length by rw [HL3.out.length]; exact hlt2]
              have z2 : W.cell? ⟨g2, x, none⟩ = some (.int .i64 y) := by rw [BF9.out.cell, ← t1]; simp [natA, D, List.getD, show x < F.length by rw [HF.out.length]; exact hxk]
              have z3 : W.cell? ⟨g1, j, none⟩ = some (.int .i64 y) := by rw [BP9.out.cell]; simp [natA, ← hy, D, List.getD, show j < P.length by rw [HP.out.length]; exact hlt2]
              have z4 : W.cell? ⟨g4, j, none⟩ = some (.int .i64 j) := by
                rw [B4'.out.cell]
                have := D_at (d := d4) (i := j) (by rw [HL4.out.length]; exact hlt2)
                rw [t2] at this
                simp [natA, ← this, show j < d4.length by rw [HL4.out.length]; exact hlt2]
              have HC0 : AllCells W [(⟨g3, j, none⟩, .int .i64 x), (⟨g2, x, none⟩, .int .i64 y), (⟨g1, j, none⟩, .int .i64 y), (⟨g4, j, none⟩, .int .i64 j)] := ⟨z1, z2, z3, z4, trivial⟩
              obtain ⟨q1, q2, q3, q4, _⟩ := AllCells.below HC0 hb.out
              have HC : AllCells (World.drew wr) [(⟨g3, j, none⟩, .int .i64 x), (⟨g2, x, none⟩, .int .i64 y), (⟨g1, j, none⟩, .int .i64 y), (⟨g4, j, none⟩, .int .i64 j)] := ⟨q1, q2, q3, q4, trivial⟩
              clear z1 z2 z3 z4 HC0 q1 q2 q3 q4 t1 t2 hx hy
              have i0' : (0 : Int) ≤ (j : Int) := by omega
              have i1' : (j : Int) < (k : Int) := by omega
              have j0' : (0 : Int) ≤ (x : Int) := by omega
              have j1' : (x : Int) < (k : Int) := by omega
              have n1 : decide ((x : Int) < 0) = false := decide_eq_false (by omega)
              have n2 : decide ((k : Int) ≤ (x : Int)) = false := decide_eq_false (by omega)
              have n2' : decide (k ≤ x) = false := decide_eq_false (by omega)
              have wk : IntKind.i64.wrap ((j : Int) + 1) = (j : Int) + 1 := IntWalk.i64_in _ (by omega)
              go_wp2_with fail
              refine region_free _ [0, 1, 2, 3, 4, 5, 6, 7, 8, 9, 10, 11, 12, 13, 14, 15, 16, 17, 18, 19, 20, 21, 22, 23, 24, 25, 26, 27, 28, 29, 30, 31, 32, 33, 34, 35] 0 (by kernel_rfl) (by kernel_rfl) (by kernel_rfl) (by kernel_rfl) (by kernel_rfl) (fun _ _ _ _ _ h => h) HC ?_
              intro hne hu
              simp only [AllCells] at hu
              simp only [pick, List.take_succ_cons, List.take_zero, List.drop_succ_cons, List.drop_zero, List.cons_append, List.nil_append]
              repeat (go_big_quiet_step (fail))
              refine wpQuiet_nil ?_
              clear hne hu
              refine ⟨by kernel_rfl, ?_⟩
              go_wp2_with fail
              go_roundw
              case rel => exact ⟨j + 1, by go_num, by omega, Lib.hid hb.out.drew⟩
              case measure => simp [intOf]; omega
            · obtain rfl : j = k := by omega
              have hjj : decide ((j : Int) < (j : Int)) = false := decide_eq_false (by omega)
              go_wp2_with fail
              go_ret
              exact ⟨rfl, HBW.out.trans (hb.out.mono HBW.out.size)⟩
end Go.Proofs.Ytifdpcjfjoekmaa
