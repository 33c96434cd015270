/-
  counterpaneref01: Of, Right; counterpaneref02.Right: their contracts. Condition: the ints fit 64 bits.
-/
import Derived.Test.YtifdpcjfjoekmaaB1
namespace Go.Proofs.Ytifdpcjfjoekmaa
open Go.RowKit

def OfP (w : World) (m ex : Int) (e : Ending) (w' : World) : Prop := ∃ v, e = .returned (.agg #[.bool (decide (m < 0)), v, .int .i64 ex]) ∧ Below w.heap.size w w' ∧ w'.ownsRow w.heap.size 3 1 v (dg m.natAbs).length (intsL (dg m.natAbs))
theorem ownsRow_lower {w : World} {base b' : Nat} {e : TypeId} {size : Nat} {v : Value} {n : Nat} {xs : List Value} (h : w.ownsRow base e size v n xs) (hb : b' ≤ base) : w.ownsRow b' e size v n xs := by
  refine ⟨h.1, ?_⟩
  rcases h.2 with h2 | ⟨g, cap, cur, hv, hbb, hg, h3⟩
  · exact .inl h2
  · exact .inr ⟨g, cap, cur, hv, Nat.le_trans hb hbb, hg, h3⟩
def put3 (W : World) (X : Nat) (a b c : Value) : World := ((W.setCell ⟨X, 0, none⟩ a).setCell ⟨X, 1, none⟩ b).setCell ⟨X, 2, none⟩ c
theorem blk_put3 {W : World} {X : Nat} {ty : TypeId} {u0 u1 u2 : Value} (h : Blk W X ty #[u0, u1, u2]) (a b c : Value) : Blk (put3 W X a b c) X ty #[a, b, c] := by
  have := ((h.store 0 a).store 1 b).store 2 c
  simp only [List.setIfInBounds_toArray, List.set_cons_succ, List.set_cons_zero] at this
  exact this
theorem blk_put3far {W : World} {X Y : Nat} {ty : TypeId} {cs : Array Value} (h : Blk W Y ty cs) (hne : Y ≠ X) (a b c : Value) : Blk (put3 W X a b c) Y ty cs := ((h.far hne a).far hne b).far hne c
theorem below_put3 {n : Nat} {w W : World} {X : Nat} (h : Below n w W) (hX : n ≤ X) (a b c : Value) : Below n w (put3 W X a b c) := ((h.setCell hX a).setCell hX b).setCell hX c
theorem put3_heap (W : World) (X : Nat) (a b c : Value) {g : Nat} (h : g ≠ X) : (put3 W X a b c).heap[g]? = W.heap[g]? := by
  unfold put3
  rw [Below.heap_setCell _ _ _ _ h, Below.heap_setCell _ _ _ _ h, Below.heap_setCell _ _ _ _ h]
theorem ownsRow_ne {w : World} {base : Nat} {e : TypeId} {size : Nat} {v : Value} {n : Nat} {xs : List Value} (h : w.ownsRow base e size v n xs) {X : Nat} {ty : TypeId} {cs : Array Value} (hb : Blk w X ty cs) (hne : ty ≠ e) : ∀ g, v.ownBlock = some g → g ≠ X := fun g hg e' => by
  subst e'
  rcases h.2 with ⟨hv, _⟩ | ⟨g', cap, cur, hv, _, hh, _⟩
  · rw [hv] at hg; cases hg
  · rw [hv] at hg; cases hg
    unfold Blk at hb
    rw [hb] at hh
    injection hh with hh
    injection hh with _ ht
    exact hne ht
set_option maxRecDepth 100000 in
set_option maxHeartbeats 4000000 in
theorem of_c (m ex : Int) (h1 : -1000000000000000 ≤ m) (h2 : m ≤ 1000000000000000) (w : World) : Calls Try.prog 28 #[.agg #[.int .i64 m, .int .i64 ex]] w (OfP w m ex) := by
  have bV : Below w.heap.size w ((w.alloc (.cells #[.int .i64 m, .int .i64 ex] 40)).alloc (.cells #[.bool false, .slice none 0 0, .int .i64 0] 57)) := ((Below.refl _ w).alloc (Nat.le_refl _) _).alloc (by simp) _
  have HB := Lib.hid bV
  have bX := Lib.hid ((Blk.new w 40 #[.int .i64 m, .int .i64 ex]).alloc (.cells #[.bool false, .slice none 0 0, .int .i64 0] 57))
  have bY := Lib.hid (show Blk ((w.alloc (.cells #[.int .i64 m, .int .i64 ex] 40)).alloc (.cells #[.bool false, .slice none 0 0, .int .i64 0] 57)) (w.heap.size + 1) 57 #[.bool false, .slice none 0 0, .int .i64 0] by
    have := Blk.new (w.alloc (.cells #[.int .i64 m, .int .i64 ex] 40)) 57 #[.bool false, .slice none 0 0, .int .i64 0]
    rw [World.size_alloc] at this; exact this)
  clear bV
  go_enter Try.func28, Try.ntmps28
  go_wp2_with fail
  generalize ((w.alloc (.cells #[.int .i64 m, .int .i64 ex] 40)).alloc (.cells #[.bool false, .slice none 0 0, .int .i64 0] 57)) = V at *
  have HC : AllCells V.drew [(⟨w.heap.size, 0, none⟩, .int .i64 m), (⟨w.heap.size, 1, none⟩, .int .i64 ex)] := ⟨bX.out.cell 0, bX.out.cell 1, trivial⟩
  refine region_free _ [0, 1, 2, 3, 4, 6, 7] 3 (by kernel_rfl) (by kernel_rfl) (by kernel_rfl) (by kernel_rfl) (by kernel_rfl) (fun _ _ _ _ _ h => h) HC ?_
  intro hne hu
  simp only [AllCells] at hu
  simp only [pick, List.take_succ_cons, List.take_zero, List.drop_succ_cons, List.drop_zero, List.cons_append, List.nil_append]
  repeat (go_big_quiet_step (fail))
  refine wpQuiet_nil ?_
  clear hne hu
  refine anyN_oneL 5 (by kernel_rfl) ?_
  simp only [List.take_succ_cons, List.take_zero, List.drop_succ_cons, List.drop_zero]
  go_wp2_with fail
  refine (digits_c m h1 h2 V.drew).mono ?_
  rintro e w1 ⟨v, rfl, b1, r1⟩
  obtain ⟨A, c, rfl, _⟩ := ownsRow_shape r1
  have HC1 := AllCells.below HC b1
  have hb1 : Below V.heap.size V w1 := ((Below.refl _ V).drew).trans (b1.mono (Nat.le_refl _))
  have HB1 := Lib.hid (HB.out.trans (hb1.mono HB.out.size))
  have bY1 := Lib.hid (bY.out.kept (hb1.block _ bY.out.lt))
  have bX1 := Lib.hid (bX.out.kept (hb1.block _ bX.out.lt))
  have R1 := Lib.hid r1
  have hYV := Lib.hid bY.out.lt
  clear b1 hb1 r1 bY bX HC
  go_wp2_with fail
  refine And.intro (fun _ => HC1) ?_
  refine anyN_more [8] 1 (by kernel_rfl) (by kernel_rfl) (by kernel_rfl) (by kernel_rfl) (fun _ _ _ _ _ h => h) HC1 ?_
  intro hne hu
  simp only [AllCells] at hu
  simp only [pick, List.take_succ_cons, List.take_zero, List.drop_succ_cons, List.drop_zero, List.cons_append, List.nil_append]
  repeat (go_big_quiet_step (fail))
  refine wpQuiet_nil ?_
  clear hne hu
  have c0 := bY1.out.cell 0
  have c1 := bY1.out.cell 1
  have c2 := bY1.out.cell 2
  have f0 := bY1.out.frozen 0
  have f1 := bY1.out.frozen 1
  have f2 := bY1.out.frozen 2
  have lY := bY1.out.lt
  simp only [List.getElem?_toArray, List.getElem?_cons_zero, List.getElem?_cons_succ] at c0 c1 c2
  refine anyN_oneL 9 (by kernel_rfl) ?_
  simp only [List.take_succ_cons, List.take_zero, List.drop_succ_cons, List.drop_zero]
  go_wp2_with fail
  change (_ → AllCells (put3 w1 (w.heap.size + 1) (.bool (decide (m < 0))) (.slice A (dg m.natAbs).length c) (.int .i64 ex)) _) ∧ wpAnyN _ _ _ _ _ _ _ _ _ (put3 w1 (w.heap.size + 1) (.bool (decide (m < 0))) (.slice A (dg m.natAbs).length c) (.int .i64 ex))
  have bY2 := Lib.hid (blk_put3 bY1.out (.bool (decide (m < 0))) (.slice A (dg m.natAbs).length c) (.int .i64 ex))
  have bX2 := Lib.hid (blk_put3far bX1.out (show w.heap.size ≠ w.heap.size + 1 by omega) (.bool (decide (m < 0))) (.slice A (dg m.natAbs).length c) (.int .i64 ex))
  have HB2 := Lib.hid (below_put3 HB1.out (show w.heap.size ≤ w.heap.size + 1 by omega) (.bool (decide (m < 0))) (.slice A (dg m.natAbs).length c) (.int .i64 ex))
  have R2 := Lib.hid (ownsRow_lower (ownsRow_kept R1.out (w' := put3 w1 (w.heap.size + 1) (.bool (decide (m < 0))) (.slice A (dg m.natAbs).length c) (.int .i64 ex)) (fun g hg _ => put3_heap w1 _ _ _ _ (ownsRow_ne R1.out bY1.out (by decide) g hg))) (show w.heap.size ≤ V.drew.heap.size from HB.out.size))
  clear bY1 bX1 HB1 R1 HC1 c0 c1 c2 f0 f1 f2 lY
  generalize put3 w1 (w.heap.size + 1) (.bool (decide (m < 0))) (.slice A (dg m.natAbs).length c) (.int .i64 ex) = W2 at *
  refine And.intro (fun _ => ⟨bX2.out.cell 0, bX2.out.cell 1, trivial⟩) ?_
  refine ⟨by kernel_rfl, ?_⟩
  have d0 := bY2.out.cell 0
  have d1 := bY2.out.cell 1
  have d2 := bY2.out.cell 2
  simp only [List.getElem?_toArray, List.getElem?_cons_zero, List.getElem?_cons_succ] at d0 d1 d2
  go_wp2_with fail
  exact bodyPost_ret (v := .agg #[.bool (decide (m < 0)), .slice A (dg m.natAbs).length c, .int .i64 ex]) (by simp [results, Try.f28, go_sem, d0, d1, d2]) rfl ⟨_, rfl, HB2.out, R2.out⟩

@[go_sem ↓] theorem Try.field57 (w : World) (b : Bool) (A : Option Addr) (n c : Nat) (x : Int) : (Instr.field 57 (.agg #[.bool b, .slice A n c, .int .i64 x]) 1).run Try.prog w = .ok (.slice A n c) w := by kernel_rfl
/-- It tells of right numbers, and of no others, that they are right. -/
def RgtP (w : World) (m ex : Int) (e : Ending) (w' : World) : Prop := ∃ b : Bool, e = .returned (.bool b) ∧ (b = true ↔ RightN m ex) ∧ Below w.heap.size w w'
set_option maxRecDepth 100000 in
set_option maxHeartbeats 4000000 in
theorem rright_c (m ex : Int) (h1 : -9223372036854775808 ≤ m) (h2 : m ≤ 9223372036854775807) (h3 : -9223372036854775808 ≤ ex) (h4 : ex ≤ 9223372036854775807) (w : World) : Calls Try.prog 22 #[.agg #[.int .i64 m, .int .i64 ex]] w (RgtP w m ex) := by
  have bV : Below w.heap.size w (w.alloc (.cells #[.int .i64 m, .int .i64 ex] 40)) := (Below.refl _ w).alloc (Nat.le_refl _) _
  have HB := Lib.hid bV
  have bX := Lib.hid (Blk.new w 40 #[.int .i64 m, .int .i64 ex])
  clear bV
  by_cases h0 : m = 0
  · subst h0
    by_cases h5 : ex = 0
    · subst h5
      go_enter Try.func22, Try.ntmps22
      go_wp2_with fail
      go_ret
      exact ⟨true, rfl, ⟨fun _ => ⟨fun _ => rfl, by omega, by omega, fun h => absurd rfl h, by omega, fun h => absurd rfl h⟩, fun _ => rfl⟩, HB.out⟩
    · have h6 : (ex == 0) = false := by simpa using h5
      have HBad := Lib.hid (show ¬ RightN 0 ex from fun r => h5 (r.zero rfl))
      clear h5
      go_enter Try.func22, Try.ntmps22
      go_wp2_with fail
      go_ret
      exact ⟨false, rfl, ⟨(fun h => by cases h), fun r => absurd r HBad.out⟩, HB.out⟩
  · have h0b : (m == 0) = false := by simpa using h0
    by_cases c1 : (1000000000000000 : Int) ≤ m
    · have c1b : decide ((1000000000000000 : Int) ≤ m) = true := decide_eq_true c1
      have HBad := Lib.hid (show ¬ RightN m ex from fun r => by have := r.hi; omega)
      clear c1 h0
      go_enter Try.func22, Try.ntmps22
      go_wp2_with fail
      go_ret
      exact ⟨false, rfl, ⟨(fun h => by cases h), fun r => absurd r HBad.out⟩, HB.out⟩
    · have c1b : decide ((1000000000000000 : Int) ≤ m) = false := decide_eq_false c1
      by_cases c2 : m ≤ -1000000000000000
      · have c2b : decide (m ≤ -1000000000000000) = true := decide_eq_true c2
        have HBad := Lib.hid (show ¬ RightN m ex from fun r => by have := r.lo; omega)
        clear c1 c2 h0
        go_enter Try.func22, Try.ntmps22
        go_wp2_with fail
        go_ret
        exact ⟨false, rfl, ⟨(fun h => by cases h), fun r => absurd r HBad.out⟩, HB.out⟩
      · have c2b : decide (m ≤ -1000000000000000) = false := decide_eq_false c2
        by_cases c3 : m.tmod 10 = 0
        · have c3b : (m.tmod 10 == 0) = true := by rw [beq_iff_eq]; exact c3
          have HBad := Lib.hid (show ¬ RightN m ex from fun r => r.mod h0 (Int.emod_eq_zero_of_dvd (Int.dvd_of_tmod_eq_zero c3)))
          clear c1 c2 c3 h0
          go_enter Try.func22, Try.ntmps22
          go_wp2_with fail
          go_ret
          exact ⟨false, rfl, ⟨(fun h => by cases h), fun r => absurd r HBad.out⟩, HB.out⟩
        · have c3b : (m.tmod 10 == 0) = false := by rw [beq_eq_false_iff_ne]; exact c3
          by_cases c4 : ex < -40
          · have c4b : decide (ex < -40) = true := decide_eq_true c4
            have HBad := Lib.hid (show ¬ RightN m ex from fun r => by have := r.elo; omega)
            clear c1 c2 c3 c4 h0
            go_enter Try.func22, Try.ntmps22
            go_wp2_with fail
            go_ret
            exact ⟨false, rfl, ⟨(fun h => by cases h), fun r => absurd r HBad.out⟩, HB.out⟩
          · have c4b : decide (ex < -40) = false := decide_eq_false c4
            by_cases c5 : 40 < ex
            · have c5b : decide (40 < ex) = true := decide_eq_true c5
              have HBad := Lib.hid (show ¬ RightN m ex from fun r => by have := r.top h0; omega)
              clear c1 c2 c3 c4 c5 h0
              go_enter Try.func22, Try.ntmps22
              go_wp2_with fail
              go_ret
              exact ⟨false, rfl, ⟨(fun h => by cases h), fun r => absurd r HBad.out⟩, HB.out⟩
            · have c5b : decide (40 < ex) = false := decide_eq_false c5
              have l1 : -1000000000000000 ≤ m := by omega
              have l2 : m ≤ 1000000000000000 := by omega
              have HO := Lib.hid (of_c m ex l1 l2)
              have HN := Lib.hid (dg_len (n := m.natAbs) (by omega) (by omega))
              have HF := Lib.hid (And.intro c1 (And.intro c2 (And.intro c3 (And.intro c4 c5))))
              have e1 : -40 ≤ ex := by omega
              have e2 : ex ≤ 40 := by omega
              have nl : (dg m.natAbs).length ≤ 20 := dg_le _
              have s1 : IntKind.i64.wrap (((dg m.natAbs).length : Int) + ex) = ((dg m.natAbs).length : Int) + ex := IntWalk.i64_in _ (by omega)
              have H0 := Lib.hid h0
              clear c1 c2 c3 c4 c5 h0 h1 h2 h3 h4
              by_cases ht : ((dg m.natAbs).length : Int) + ex ≤ 40
              · have htb : decide (((dg m.natAbs).length : Int) + ex ≤ 40) = true := decide_eq_true ht
                have HT := Lib.hid ht
                clear ht
                go_enter Try.func22, Try.ntmps22
                go_wp2_with fail
                generalize w.alloc (.cells #[.int .i64 m, .int .i64 ex] 40) = V at *
                have HC : AllCells V.drew [(⟨w.heap.size, 0, none⟩, .int .i64 m), (⟨w.heap.size, 1, none⟩, .int .i64 ex)] := ⟨bX.out.cell 0, bX.out.cell 1, trivial⟩
                refine region_free _ [0, 4, 5] 6 (by kernel_rfl) (by kernel_rfl) (by kernel_rfl) (by kernel_rfl) (by kernel_rfl) (fun _ _ _ _ _ h => h) HC ?_
                intro hne hu
                simp only [AllCells] at hu
                simp only [pick, List.take_succ_cons, List.take_zero, List.drop_succ_cons, List.drop_zero, List.cons_append, List.nil_append]
                repeat (go_big_quiet_step (fail))
                refine wpQuiet_nil ?_
                clear hne hu
                refine anyN_oneL 1 (by kernel_rfl) ?_
                simp only [List.take_succ_cons, List.take_zero, List.drop_succ_cons, List.drop_zero]
                go_wp2_with fail
                refine (HO.out _).mono ?_
                rintro e w1 ⟨v, rfl, b1, r1⟩
                obtain ⟨A, c, rfl, _⟩ := ownsRow_shape r1
                have HC1 := AllCells.below HC b1
                have HB1 := Lib.hid (HB.out.drew.trans (b1.mono HB.out.size))
                clear b1 r1 HC HB bX HO
                go_wp2_with fail
                refine And.intro (fun _ => HC1) ?_
                refine anyN_oneL 2 (by kernel_rfl) ?_
                simp only [List.take_succ_cons, List.take_zero, List.drop_succ_cons, List.drop_zero]
                go_wp2_with fail
                refine And.intro (fun _ => HC1) ?_
                refine anyN_more [3, 6, 7, 8] 0 (by kernel_rfl) (by kernel_rfl) (by kernel_rfl) (by kernel_rfl) (fun _ _ _ _ _ h => h) HC1 ?_
                intro hne hu
                simp only [AllCells] at hu
                simp only [pick, List.take_succ_cons, List.take_zero, List.drop_succ_cons, List.drop_zero, List.cons_append, List.nil_append]
                repeat (go_big_quiet_step (fail))
                refine wpQuiet_nil ?_
                clear hne hu
                refine ⟨by kernel_rfl, ?_⟩
                clear HC1
                go_wp2_with fail
                go_ret
                clear s1
                exact ⟨true, rfl, ⟨fun _ => ⟨fun h => absurd h H0.out, by have := HF.out.1; have := HF.out.2.1; omega, by have := HF.out.1; omega, fun _ hh => HF.out.2.2.1 (Int.tmod_eq_zero_of_dvd (Int.dvd_of_emod_eq_zero hh)), e1, fun _ => by have := HN.out; have := HT.out; omega⟩, fun _ => rfl⟩, HB1.out⟩
              · have htb : decide (((dg m.natAbs).length : Int) + ex ≤ 40) = false := decide_eq_false ht
                have HT := Lib.hid ht
                clear ht
                go_enter Try.func22, Try.ntmps22
                go_wp2_with fail
                generalize w.alloc (.cells #[.int .i64 m, .int .i64 ex] 40) = V at *
                have HC : AllCells V.drew [(⟨w.heap.size, 0, none⟩, .int .i64 m), (⟨w.heap.size, 1, none⟩, .int .i64 ex)] := ⟨bX.out.cell 0, bX.out.cell 1, trivial⟩
                refine region_free _ [0, 4, 5] 6 (by kernel_rfl) (by kernel_rfl) (by kernel_rfl) (by kernel_rfl) (by kernel_rfl) (fun _ _ _ _ _ h => h) HC ?_
                intro hne hu
                simp only [AllCells] at hu
                simp only [pick, List.take_succ_cons, List.take_zero, List.drop_succ_cons, List.drop_zero, List.cons_append, List.nil_append]
                repeat (go_big_quiet_step (fail))
                refine wpQuiet_nil ?_
                clear hne hu
                refine anyN_oneL 1 (by kernel_rfl) ?_
                simp only [List.take_succ_cons, List.take_zero, List.drop_succ_cons, List.drop_zero]
                go_wp2_with fail
                refine (HO.out _).mono ?_
                rintro e w1 ⟨v, rfl, b1, r1⟩
                obtain ⟨A, c, rfl, _⟩ := ownsRow_shape r1
                have HC1 := AllCells.below HC b1
                have HB1 := Lib.hid (HB.out.drew.trans (b1.mono HB.out.size))
                clear b1 r1 HC HB bX HO
                go_wp2_with fail
                refine And.intro (fun _ => HC1) ?_
                refine anyN_oneL 2 (by kernel_rfl) ?_
                simp only [List.take_succ_cons, List.take_zero, List.drop_succ_cons, List.drop_zero]
                go_wp2_with fail
                refine And.intro (fun _ => HC1) ?_
                refine anyN_more [3, 6, 7, 8] 0 (by kernel_rfl) (by kernel_rfl) (by kernel_rfl) (by kernel_rfl) (fun _ _ _ _ _ h => h) HC1 ?_
                intro hne hu
                simp only [AllCells] at hu
                simp only [pick, List.take_succ_cons, List.take_zero, List.drop_succ_cons, List.drop_zero, List.cons_append, List.nil_append]
                repeat (go_big_quiet_step (fail))
                refine wpQuiet_nil ?_
                clear hne hu
                refine ⟨by kernel_rfl, ?_⟩
                clear HC1
                go_wp2_with fail
                go_ret
                clear s1
                exact ⟨false, rfl, ⟨(fun h => by cases h), fun r => absurd (r.top H0.out) (by have := HN.out; have := HT.out; omega)⟩, HB1.out⟩
end Go.Proofs.Ytifdpcjfjoekmaa
