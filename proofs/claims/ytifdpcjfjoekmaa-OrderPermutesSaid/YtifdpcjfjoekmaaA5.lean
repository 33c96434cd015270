/-
  Package value: beside, Compare, Order; order.at: their contracts. Condition: the values are right where they are numbers; texts are bounded.
-/
import Derived.Test.YtifdpcjfjoekmaaA3
import Derived.Test.YtifdpcjfjoekmaaA4
namespace Go.Proofs.Ytifdpcjfjoekmaa
open Go.RowKit

structure Val where
  kind : Int
  mant : Int
  exp : Int
  text : ByteArray
  truth : Bool
  fault : Int
def Val.cs (x : Val) : List Value := [.int .i64 x.kind, .int .i64 x.mant, .int .i64 x.exp, .string x.text, .bool x.truth, .int .i64 x.fault]
def zeroV : Val := ⟨0, 0, 0, ⟨#[]⟩, false, 0⟩
instance : Inhabited Val := ⟨zeroV⟩
/-- What may be, as far as it is needed. -/
structure Okay (x : Val) : Prop where
  num : x.kind = 1 → RightN x.mant x.exp
  text : x.text.size ≤ 1000000
def byKind (x y : Val) : Int :=
  if x.kind = 1 then cmp3 (keyN x.mant x.exp) (keyN y.mant y.exp) else if x.kind = 2 then Lib.compareBytes (foldB x.text).data.toList (foldB y.text).data.toList else if x.kind = 3 then truthR x.truth y.truth else if x.kind = 4 then cmp3 x.fault y.fault else 0
def valCmp (x y : Val) : Int := if x.kind ≠ y.kind then cmp3 x.kind y.kind else byKind x y
def valOrd (x y : Val) : Int := if x.kind = 0 ∧ y.kind = 0 then 0 else if x.kind = 0 then 1 else if y.kind = 0 then -1 else valCmp x y

theorem setCell_id {w : World} {a : Addr} {v : Value} (h : w.cell? a = some v) : w.setCell a v = w := by
  have hh : (w.setCell a v).heap = w.heap := by
    unfold World.cell? at h
    split at h
    · rename_i c e fr hb
      split at h
      · cases h
      · rename_i hs
        unfold World.setCell
        apply Array.ext
        · simp only [Array.size_modify]
        · intro i h1 h2
          rw [Array.getElem_modify]
          split
          · rename_i e1
            subst e1
            have hb' : w.heap[a.block] = .cells c e fr := (Array.getElem?_eq_some_iff.1 hb).2
            simp only [hb', if_neg hs]
            congr 1
            apply Array.ext
            · simp
            · intro j h3 h4
              by_cases e2 : a.off = j
              · subst e2
                rw [Array.getElem?_eq_getElem h4] at h
                simp [Option.some.inj h]
              · exact Array.getElem_setIfInBounds_ne h4 e2
          · rfl
    · cases h
  have e : w.setCell a v = { w with heap := (w.setCell a v).heap } := rfl
  rw [e, hh]

set_option maxRecDepth 100000 in
set_option maxHeartbeats 1000000 in
theorem beside_c (k m x f : Int) (t : ByteArray) (b : Bool) (y : Val) (hk : k ≠ 0) (w : World) :
    Calls Try.prog 37 #[.agg #[.int .i64 k, .int .i64 m, .int .i64 x, .string t, .bool b, .int .i64 f], .agg y.cs.toArray] w fun e w' => e = .returned (.agg #[.int .i64 k, .int .i64 m, .int .i64 x, .string t, .bool b, .int .i64 f]) ∧ Below w.heap.size w w' := by
  have h0 : (k != 0) = true := by rw [bne_iff_ne]; exact hk
  unfold Val.cs
  have bl : Below w.heap.size w (((w.alloc (.cells #[.int .i64 k, .int .i64 m, .int .i64 x, .string t, .bool b, .int .i64 f] 42)).alloc (.cells #[.int .i64 y.kind, .int .i64 y.mant, .int .i64 y.exp, .string y.text, .bool y.truth, .int .i64 y.fault] 42))) := ((Below.refl _ w).alloc (Nat.le_refl _) _).alloc (by simp) _
  have HB := Lib.hid bl
  clear bl
  go_enter Try.func37, Try.ntmps37
  go_wp2
  exact bodyPost_ret (v := .agg #[.int .i64 k, .int .i64 m, .int .i64 x, .string t, .bool b, .int .i64 f]) (by simp [results, Try.f37, go_sem]) rfl ⟨rfl, HB.out.trans (((Below.refl _ _).alloc (Nat.le_refl _) _).mono HB.out.size)⟩

set_option maxRecDepth 100000 in
set_option maxHeartbeats 4000000 in
theorem vcompare_c (x y : Val) (hx : Okay x) (hy : Okay y) (hx0 : x.kind ≠ 0) (hy0 : y.kind ≠ 0) (hxk : 1 ≤ x.kind ∧ x.kind ≤ 4) (w : World) :
    Calls Try.prog 31 #[.agg x.cs.toArray, .agg y.cs.toArray] w fun e w' => e = .returned (.int .i64 (valCmp x y)) ∧ Below w.heap.size w w' := by
  obtain ⟨k, m, ex, t, b, f⟩ := x
  obtain ⟨k2, m2, ex2, t2, b2, f2⟩ := y
  unfold Val.cs
  dsimp only at hx0 hy0 hxk ⊢
  have HX := Lib.hid hx
  have HY := Lib.hid hy
  have bV : Below w.heap.size w ((w.alloc (.cells #[.int .i64 k, .int .i64 m, .int .i64 ex, .string t, .bool b, .int .i64 f] 42)).alloc (.cells #[.int .i64 k2, .int .i64 m2, .int .i64 ex2, .string t2, .bool b2, .int .i64 f2] 42)) := ((Below.refl _ w).alloc (Nat.le_refl _) _).alloc (by simp) _
  have HB := Lib.hid bV
  have bX := Lib.hid ((Blk.new w 42 #[.int .i64 k, .int .i64 m, .int .i64 ex, .string t, .bool b, .int .i64 f]).alloc (.cells #[.int .i64 k2, .int .i64 m2, .int .i64 ex2, .string t2, .bool b2, .int .i64 f2] 42))
  have bY : Hid (Blk ((w.alloc (.cells #[.int .i64 k, .int .i64 m, .int .i64 ex, .string t, .bool b, .int .i64 f] 42)).alloc (.cells #[.int .i64 k2, .int .i64 m2, .int .i64 ex2, .string t2, .bool b2, .int .i64 f2] 42)) (w.heap.size + 1) 42 #[.int .i64 k2, .int .i64 m2, .int .i64 ex2, .string t2, .bool b2, .int .i64 f2]) := by
    have := Blk.new (w.alloc (.cells #[.int .i64 k, .int .i64 m, .int .i64 ex, .string t, .bool b, .int .i64 f] 42)) 42 #[.int .i64 k2, .int .i64 m2, .int .i64 ex2, .string t2, .bool b2, .int .i64 f2]
    rw [World.size_alloc] at this; exact this
  clear bV hx hy
  have HX0 := Lib.hid hx0
  have HY0 := Lib.hid hy0
  clear hx0 hy0
  go_enter Try.func31, Try.ntmps31
  go_wp2_with fail
  generalize (w.alloc (.cells #[.int .i64 k, .int .i64 m, .int .i64 ex, .string t, .bool b, .int .i64 f] 42)).alloc (.cells #[.int .i64 k2, .int .i64 m2, .int .i64 ex2, .string t2, .bool b2, .int .i64 f2] 42) = V at *
  have HC : AllCells V.drew [(⟨w.heap.size, 0, none⟩, .int .i64 k), (⟨w.heap.size, 1, none⟩, .int .i64 m), (⟨w.heap.size, 2, none⟩, .int .i64 ex), (⟨w.heap.size, 3, none⟩, .string t), (⟨w.heap.size, 4, none⟩, .bool b), (⟨w.heap.size, 5, none⟩, .int .i64 f), (⟨w.heap.size + 1, 0, none⟩, .int .i64 k2), (⟨w.heap.size + 1, 1, none⟩, .int .i64 m2), (⟨w.heap.size + 1, 2, none⟩, .int .i64 ex2), (⟨w.heap.size + 1, 3, none⟩, .string t2), (⟨w.heap.size + 1, 4, none⟩, .bool b2), (⟨w.heap.size + 1, 5, none⟩, .int .i64 f2)] := ⟨bX.out.cell 0, bX.out.cell 1, bX.out.cell 2, bX.out.cell 3, bX.out.cell 4, bX.out.cell 5, bY.out.cell 0, bY.out.cell 1, bY.out.cell 2, bY.out.cell 3, bY.out.cell 4, bY.out.cell 5, trivial⟩
  refine region_free _ [0, 1, 3, 4] 4 (by kernel_rfl) (by kernel_rfl) (by kernel_rfl) (by kernel_rfl) (by kernel_rfl) (fun _ _ _ _ _ h => h) HC ?_
  intro hne hu
  simp only [AllCells] at hu
  simp only [pick, List.take_succ_cons, List.take_zero, List.drop_succ_cons, List.drop_zero, List.cons_append, List.nil_append]
  repeat (go_big_quiet_step (fail))
  refine wpQuiet_nil ?_
  clear hne hu
  refine anyN_oneL 2 (by kernel_rfl) ?_
  simp only [List.take_succ_cons, List.take_zero, List.drop_succ_cons, List.drop_zero]
  go_wp2_with fail
  refine (beside_c k m ex f t b ⟨k2, m2, ex2, t2, b2, f2⟩ HX0.out _).mono ?_
  rintro e w1 ⟨rfl, b1⟩
  have HC1 := AllCells.below HC b1
  have bX1 := Lib.hid (bX.out.kept (b1.block _ bX.out.lt))
  have bY1 := Lib.hid (bY.out.kept (b1.block _ bY.out.lt))
  have HB1 := Lib.hid (HB.out.drew.trans (b1.mono HB.out.size))
  clear b1 bX bY HB HC
  go_wp2_with fail
  refine And.intro (fun _ => HC1) ?_
  refine anyN_oneL 5 (by kernel_rfl) ?_
  simp only [List.take_succ_cons, List.take_zero, List.drop_succ_cons, List.drop_zero]
  go_wp2_with fail
  refine (beside_c k2 m2 ex2 f2 t2 b2 ⟨k, m, ex, t, b, f⟩ HY0.out _).mono ?_
  rintro e w2 ⟨rfl, b2'⟩
  have HC2 := AllCells.below HC1 b2'
  have bX2 := Lib.hid (bX1.out.kept (b2'.block _ bX1.out.lt))
  have bY2 := Lib.hid (bY1.out.kept (b2'.block _ bY1.out.lt))
  have HB2 := Lib.hid (HB1.out.trans (b2'.mono HB1.out.size))
  clear b2' bX1 bY1 HB1 HC1
  go_wp2_with fail
  refine And.intro (fun _ => HC2) ?_
  refine anyN_oneL 6 (by kernel_rfl) ?_
  simp only [List.take_succ_cons, List.take_zero, List.drop_succ_cons, List.drop_zero]
  have f0 := bX2.out.frozen 0
  have c0 : w2.cell? ⟨w.heap.size, 0, none⟩ = some (.int .i64 k) := bX2.out.cell 0
  have s0 := setCell_id c0
  have f1 := bX2.out.frozen 1
  have c1 : w2.cell? ⟨w.heap.size, 1, none⟩ = some (.int .i64 m) := bX2.out.cell 1
  have s1 := setCell_id c1
  have f2' := bX2.out.frozen 2
  have c2 : w2.cell? ⟨w.heap.size, 2, none⟩ = some (.int .i64 ex) := bX2.out.cell 2
  have s2 := setCell_id c2
  have f3 := bX2.out.frozen 3
  have c3 : w2.cell? ⟨w.heap.size, 3, none⟩ = some (.string t) := bX2.out.cell 3
  have s3 := setCell_id c3
  have f4 := bX2.out.frozen 4
  have c4 : w2.cell? ⟨w.heap.size, 4, none⟩ = some (.bool b) := bX2.out.cell 4
  have s4 := setCell_id c4
  have f5 := bX2.out.frozen 5
  have c5 : w2.cell? ⟨w.heap.size, 5, none⟩ = some (.int .i64 f) := bX2.out.cell 5
  have s5 := setCell_id c5
  have lB := bX2.out.lt
  go_wp2_with fail
  clear f0 f1 f2' f3 f4 f5 c0 c1 c2 c3 c4 c5 s0 s1 s2 s3 s4 s5 lB
  refine And.intro (fun _ => HC2) ?_
  refine anyN_oneL 7 (by kernel_rfl) ?_
  simp only [List.take_succ_cons, List.take_zero, List.drop_succ_cons, List.drop_zero]
  have f0 := bY2.out.frozen 0
  have c0 : w2.cell? ⟨w.heap.size + 1, 0, none⟩ = some (.int .i64 k2) := bY2.out.cell 0
  have s0 := setCell_id c0
  have f1 := bY2.out.frozen 1
  have c1 : w2.cell? ⟨w.heap.size + 1, 1, none⟩ = some (.int .i64 m2) := bY2.out.cell 1
  have s1 := setCell_id c1
  have f2' := bY2.out.frozen 2
  have c2 : w2.cell? ⟨w.heap.size + 1, 2, none⟩ = some (.int .i64 ex2) := bY2.out.cell 2
  have s2 := setCell_id c2
  have f3 := bY2.out.frozen 3
  have c3 : w2.cell? ⟨w.heap.size + 1, 3, none⟩ = some (.string t2) := bY2.out.cell 3
  have s3 := setCell_id c3
  have f4 := bY2.out.frozen 4
  have c4 : w2.cell? ⟨w.heap.size + 1, 4, none⟩ = some (.bool b2) := bY2.out.cell 4
  have s4 := setCell_id c4
  have f5 := bY2.out.frozen 5
  have c5 : w2.cell? ⟨w.heap.size + 1, 5, none⟩ = some (.int .i64 f2) := bY2.out.cell 5
  have s5 := setCell_id c5
  have lB := bY2.out.lt
  go_wp2_with fail
  clear f0 f1 f2' f3 f4 f5 c0 c1 c2 c3 c4 c5 s0 s1 s2 s3 s4 s5 lB
  refine And.intro (fun _ => HC2) ?_
  refine ⟨by kernel_rfl, ?_⟩
  clear HC2
  have x0 : w2.cell? ⟨w.heap.size, 0, none⟩ = some (.int .i64 k) := bX2.out.cell 0
  have y0 : w2.cell? ⟨w.heap.size + 1, 0, none⟩ = some (.int .i64 k2) := bY2.out.cell 0
  have x1 : w2.cell? ⟨w.heap.size, 1, none⟩ = some (.int .i64 m) := bX2.out.cell 1
  have y1 : w2.cell? ⟨w.heap.size + 1, 1, none⟩ = some (.int .i64 m2) := bY2.out.cell 1
  have x2 : w2.cell? ⟨w.heap.size, 2, none⟩ = some (.int .i64 ex) := bX2.out.cell 2
  have y2 : w2.cell? ⟨w.heap.size + 1, 2, none⟩ = some (.int .i64 ex2) := bY2.out.cell 2
  have x3 : w2.cell? ⟨w.heap.size, 3, none⟩ = some (.string t) := bX2.out.cell 3
  have y3 : w2.cell? ⟨w.heap.size + 1, 3, none⟩ = some (.string t2) := bY2.out.cell 3
  have x4 : w2.cell? ⟨w.heap.size, 4, none⟩ = some (.bool b) := bX2.out.cell 4
  have y4 : w2.cell? ⟨w.heap.size + 1, 4, none⟩ = some (.bool b2) := bY2.out.cell 4
  have x5 : w2.cell? ⟨w.heap.size, 5, none⟩ = some (.int .i64 f) := bX2.out.cell 5
  have y5 : w2.cell? ⟨w.heap.size + 1, 5, none⟩ = some (.int .i64 f2) := bY2.out.cell 5
  have lX := bX2.out.lt
  have lY := bY2.out.lt
  by_cases hk : k = k2
  · subst hk
    have hkk : (k != k) = false := by simp
    have HV : Hid (valCmp ⟨k, m, ex, t, b, f⟩ ⟨k, m2, ex2, t2, b2, f2⟩ = byKind ⟨k, m, ex, t, b, f⟩ ⟨k, m2, ex2, t2, b2, f2⟩) := if_neg (by simp)
    have h4 : k = 1 ∨ k = 2 ∨ k = 3 ∨ k = 4 := by omega
    clear hxk HX0 HY0
    rcases h4 with rfl | rfl | rfl | rfl
    · have HN := Lib.hid (ncmp_c m ex m2 ex2 (HX.out.num rfl) (HY.out.num rfl))
      go_wp2_with fail
      refine (HN.out _).mono ?_
      rintro e w3 ⟨rfl, b3⟩
      have HB3 := Lib.hid (HB2.out.trans (b3.mono HB2.out.size))
      clear b3 x0 x1 x2 x3 x4 x5 y0 y1 y2 y3 y4 y5 lX lY
      go_wp2_with fail
      go_ret
      exact ⟨ret_i64 (by rw [HV.out]; rfl), HB3.out⟩
    · have HF1 := Lib.hid (fold_c t HX.out.text)
      have HF2 := Lib.hid (fold_c t2 HY.out.text)
      go_wp2_with fail
      clear x0 x1 x2 x3 x4 x5 y0 y1 y2 y3 y4 y5
      have HC : AllCells w2.drew [(⟨w.heap.size, 3, none⟩, .string t), (⟨w.heap.size + 1, 3, none⟩, .string t2)] := ⟨bX2.out.cell 3, bY2.out.cell 3, trivial⟩
      refine region_free _ [0, 1, 3, 4] 4 (by kernel_rfl) (by kernel_rfl) (by kernel_rfl) (by kernel_rfl) (by kernel_rfl) (fun _ _ _ _ _ h => h) HC ?_
      intro hne hu
      simp only [AllCells] at hu
      simp only [pick, List.take_succ_cons, List.take_zero, List.drop_succ_cons, List.drop_zero, List.cons_append, List.nil_append]
      repeat (go_big_quiet_step (fail))
      refine wpQuiet_nil ?_
      clear hne hu
      refine anyN_oneL 2 (by kernel_rfl) ?_
      simp only [List.take_succ_cons, List.take_zero, List.drop_succ_cons, List.drop_zero]
      go_wp2_with fail
      refine (HF1.out _).mono ?_
      rintro e w3 ⟨rfl, b3⟩
      have HC3 := AllCells.below HC b3
      have HB3 := Lib.hid (HB2.out.drew.trans (b3.mono HB2.out.size))
      clear b3 HC HB2 bX2 bY2 lX lY
      go_wp2_with fail
      refine And.intro (fun _ => HC3) ?_
      refine anyN_oneL 5 (by kernel_rfl) ?_
      simp only [List.take_succ_cons, List.take_zero, List.drop_succ_cons, List.drop_zero]
      go_wp2_with fail
      refine (HF2.out _).mono ?_
      rintro e w4 ⟨rfl, b4⟩
      have HC4 := AllCells.below HC3 b4
      have HB4 := Lib.hid (HB3.out.trans (b4.mono HB3.out.size))
      clear b4 HC3 HB3
      go_wp2_with fail
      refine And.intro (fun _ => HC4) ?_
      refine anyN_oneL 6 (by kernel_rfl) ?_
      simp only [List.take_succ_cons, List.take_zero, List.drop_succ_cons, List.drop_zero]
      go_wp2_with fail
      refine (cmpstr_c (foldB t) (foldB t2) _).mono ?_
      rintro e w5 ⟨rfl, rfl⟩
      go_wp2_with fail
      refine And.intro (fun _ => HC4) ?_
      refine anyN_more [7] 0 (by kernel_rfl) (by kernel_rfl) (by kernel_rfl) (by kernel_rfl) (fun _ _ _ _ _ h => h) HC4 ?_
      intro hne hu
      simp only [AllCells] at hu
      simp only [pick, List.take_succ_cons, List.take_zero, List.drop_succ_cons, List.drop_zero, List.cons_append, List.nil_append]
      repeat (go_big_quiet_step (fail))
      refine wpQuiet_nil ?_
      clear hne hu
      refine ⟨by kernel_rfl, ?_⟩
      clear HC4
      go_wp2_with fail
      go_ret
      exact ⟨ret_i64 (by rw [HV.out]; rfl), HB4.out⟩
    · go_wp2_with fail
      refine (truth_c b b2 _).mono ?_
      rintro e w3 ⟨rfl, rfl⟩
      go_wp2_with fail
      go_ret
      exact ⟨ret_i64 (by rw [HV.out]; rfl), HB2.out⟩
    · rcases Int.lt_trichotomy f f2 with h | h | h
      · have hc := Lib.hid (cmp3_lt h)
        go_wp2_with fail
        go_ret
        exact ⟨ret_i64 (by rw [HV.out]; exact hc.out.symm), HB2.out⟩
      · have hc := Lib.hid (cmp3_eq h)
        subst h
        have q : ¬ f < f := by omega
        go_wp2_with fail
        go_ret
        exact ⟨ret_i64 (by rw [HV.out]; exact hc.out.symm), HB2.out⟩
      · have hc := Lib.hid (cmp3_gt h)
        have q : ¬ f < f2 := by omega
        go_wp2_with fail
        go_ret
        exact ⟨ret_i64 (by rw [HV.out]; exact hc.out.symm), HB2.out⟩
  · have hkk : (k != k2) = true := by simpa using hk
    have HV : Hid (valCmp ⟨k, m, ex, t, b, f⟩ ⟨k2, m2, ex2, t2, b2, f2⟩ = cmp3 k k2) := if_pos hk
    clear HX0 HY0
    by_cases hlt : k < k2
    · have hc := Lib.hid (cmp3_lt hlt)
      clear hk
      go_wp2_with fail
      go_ret
      exact ⟨ret_i64 (by rw [HV.out]; exact hc.out.symm), HB2.out⟩
    · have hc := Lib.hid (cmp3_gt (show k2 < k by omega))
      clear hk
      go_wp2_with fail
      go_ret
      exact ⟨ret_i64 (by rw [HV.out]; exact hc.out.symm), HB2.out⟩

set_option maxRecDepth 100000 in
set_option maxHeartbeats 4000000 in
theorem vorder_c (x y : Val) (hx : Okay x) (hy : Okay y) (hxk : 0 ≤ x.kind ∧ x.kind ≤ 4) (w : World) :
    Calls Try.prog 25 #[.agg x.cs.toArray, .agg y.cs.toArray] w fun e w' => e = .returned (.int .i64 (valOrd x y)) ∧ Below w.heap.size w w' := by
  have bV : Below w.heap.size w ((w.alloc (.cells x.cs.toArray 42)).alloc (.cells y.cs.toArray 42)) := ((Below.refl _ w).alloc (Nat.le_refl _) _).alloc (by simp) _
  have HB := Lib.hid bV
  clear bV
  by_cases hx0 : x.kind = 0
  · by_cases hy0 : y.kind = 0
    · have hv : Hid (valOrd x y = 0) := if_pos ⟨hx0, hy0⟩
      unfold Val.cs at HB ⊢
      rw [hx0, hy0] at HB ⊢
      clear hx hy hxk hx0 hy0
      go_enter Try.func25, Try.ntmps25
      go_wp2_with fail
      go_ret
      exact ⟨ret_i64 hv.out.symm, HB.out⟩
    · have hv := Lib.hid (show valOrd x y = 1 by unfold valOrd; rw [if_neg (by simp [hy0]), if_pos hx0])
      have hyb : (y.kind == 0) = false := by simpa using hy0
      unfold Val.cs at HB ⊢
      rw [hx0] at HB ⊢
      clear hx hy hxk hx0 hy0
      go_enter Try.func25, Try.ntmps25
      go_wp2_with fail
      go_ret
      exact ⟨ret_i64 hv.out.symm, HB.out⟩
  · have hxb : (x.kind == 0) = false := by simpa using hx0
    by_cases hy0 : y.kind = 0
    · have hv := Lib.hid (show valOrd x y = -1 by unfold valOrd; rw [if_neg (by simp [hx0]), if_neg hx0, if_pos hy0])
      unfold Val.cs at HB ⊢
      rw [hy0] at HB ⊢
      clear hx hy hxk hx0 hy0
      go_enter Try.func25, Try.ntmps25
      go_wp2_with fail
      go_ret
      exact ⟨ret_i64 hv.out.symm, HB.out⟩
    · have hv := Lib.hid (show valOrd x y = valCmp x y by unfold valOrd; rw [if_neg (by simp [hx0]), if_neg hx0, if_neg hy0])
      have hyb : (y.kind == 0) = false := by simpa using hy0
      have HC := Lib.hid (vcompare_c x y hx hy hx0 hy0 (by omega))
      unfold Val.cs at HB HC ⊢
      clear hx hy hxk hx0 hy0
      go_enter Try.func25, Try.ntmps25
      go_wp2_with fail
      refine (HC.out _).mono ?_
      rintro e w1 ⟨rfl, b1⟩
      have HB1 := Lib.hid (HB.out.trans (b1.mono HB.out.size))
      clear b1 HC HB
      go_wp2_with fail
      go_ret
      exact ⟨ret_i64 hv.out.symm, HB1.out⟩

/-- A slice of things of k cells each, that can be read. -/
def ManyR {α : Type} (f : α → List Value) (k : Nat) (w : World) (A : Option Addr) (l : List α) : Prop :=
  l ≠ [] → ∃ b off, A = some ⟨b, off, none⟩ ∧ b < w.heap.size ∧ ∀ i (h : i < l.length), ∀ j v, (f l[i])[j]? = some v → w.cell? ⟨b, off + i * k + j, none⟩ = some v
theorem ManyR.next {α : Type} {f : α → List Value} {k : Nat} {w w' : World} {A : Option Addr} {l : List α} (h : ManyR f k w A l) (hb : Below w.heap.size w w') : ManyR f k w' A l := fun hl => by
  obtain ⟨b, off, hA, hlt, hc⟩ := h hl
  exact ⟨b, off, hA, Nat.lt_of_lt_of_le hlt hb.size, fun i hi j v hv => (hb.cell (p := ⟨b, off + i * k + j, none⟩) hlt).trans (hc i hi j v hv)⟩
/-- The value of a row at a column. -/
def atV (l : List Val) (c : Int) : Val := if c < 0 then zeroV else l.getD c.toNat zeroV

set_option maxRecDepth 100000 in
set_option maxHeartbeats 4000000 in
theorem at_c (A : Option Addr) (n cap : Nat) (l : List Val) (c : Int) (w : World) (hA : ManyR Val.cs 6 w A l) (hn : l.length = n) (hm : n ≤ 1000000) :
    Calls Try.prog 24 #[.slice A n cap, .int .i64 c] w fun e w' => e = .returned (.agg (atV l c).cs.toArray) ∧ Below w.heap.size w w' := by
  by_cases h0 : c < 0
  · have hv : Hid (atV l c = zeroV) := if_pos h0
    clear hA hn
    go_enter Try.func24, Try.ntmps24
    go_wp2_with fail
    exact bodyPost_ret (v := .agg zeroV.cs.toArray) (by simp [results, Try.f24, go_sem, zeroV, Val.cs]) rfl ⟨by rw [hv.out], (Below.refl _ _).alloc (Nat.le_refl _) _⟩
  · by_cases h1 : c < n
    · obtain ⟨i, rfl⟩ : ∃ i : Nat, c = i := ⟨c.toNat, by omega⟩
      have hi : i < l.length := by omega
      obtain ⟨b, off, rfl, hlt, hc⟩ := hA (fun e => by rw [e] at hi; simp at hi)
      have hv : Hid (atV l (i : Int) = l[i]) := by
        have e : atV l (i : Int) = l[i] := by unfold atV; rw [if_neg h0]; simp [List.getD, hi]
        exact e
      have g := hc i hi
      clear hc
      generalize l[i] = z at *
      obtain ⟨k, m, ex, t, bb, f⟩ := z
      have c0 := g 0 _ rfl
      have c1 := g 1 _ rfl
      have c2 := g 2 _ rfl
      have c3 := g 3 _ rfl
      have c4 := g 4 _ rfl
      have c5 := g 5 _ rfl
      rw [Nat.add_zero] at c0
      have h0' : (0 : Int) ≤ (i : Int) := by omega
      clear g hn hi hA h0
      go_enter Try.func24, Try.ntmps24
      go_wp2_with fail
      exact bodyPost_ret (v := .agg (Val.cs ⟨k, m, ex, t, bb, f⟩).toArray) (by simp [results, Try.f24, go_sem, Val.cs]) rfl ⟨by rw [hv.out], (Below.refl _ _).alloc (Nat.le_refl _) _⟩
    · have hv : Hid (atV l c = zeroV) := by
        have e : atV l c = zeroV := by unfold atV; rw [if_neg h0]; simp [List.getD, show l.length ≤ c.toNat by omega]
        exact e
      have h1' : decide ((n : Int) ≤ c) = true := decide_eq_true (by omega)
      have h0' : decide (c < 0) = false := decide_eq_false h0
      clear hA hn
      clear h0 h1
      go_enter Try.func24, Try.ntmps24
      go_wp2_with fail
      exact bodyPost_ret (v := .agg zeroV.cs.toArray) (by simp [results, Try.f24, go_sem, zeroV, Val.cs]) rfl ⟨by rw [hv.out], (Below.refl _ _).alloc (Nat.le_refl _) _⟩
end Go.Proofs.Ytifdpcjfjoekmaa
