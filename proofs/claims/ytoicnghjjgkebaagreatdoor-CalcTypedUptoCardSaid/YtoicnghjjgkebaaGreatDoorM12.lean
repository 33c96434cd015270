/-
  What orders cells, and live cells: cmp.Compare, cmp.Or, cells.ids, cells.order, inReadingOrder's closure: some number is told. No condition.
  cells.order; slices.SortFunc at cells and at live cells, of twelve at most: a permutation comes out. Conditions: those said in each statement.
  maps.Keys over a map keyed by cells: its closure goes through all keys, in some order. Condition: the map lies in memory as MapG says.
  A range over a function whose rounds lay their variables in boxes; how a function ends behind one. No condition.
-/
import Derived.Test.YtoicnghjjgkebaaGreatDoorQ5
import Derived.Test.YtoicnghjjgkebaaGreatDoorM4
import Derived.Test.YtoicnghjjgkebaaGreatDoorH1
set_option linter.unusedSectionVars false
set_option linter.unusedSimpArgs false
set_option linter.unusedVariables false
set_option linter.unnecessarySimpa false
namespace Go.Proofs.YtoicnghjjgkebaaGreatDoor
open Go.RowKit
/-- Some number is told. -/
def RetI (w : World) (e : Ending) (w' : World) : Prop := ∃ k : Int, e = .returned (.int .i64 k) ∧ Below w.heap.size w w'
set_option maxRecDepth 100000 in
set_option maxHeartbeats 4000000 in
theorem nan_c (x : Int) (w : World) : Calls Tryz.prog 257 #[.int .i64 x] w fun e w' => e = .returned (.bool false) ∧ w' = w := by
  go_enter Tryz.func257, Tryz.ntmps257
  go_wp2
  go_ret
  exact ⟨rfl, rfl⟩
set_option maxRecDepth 100000 in
set_option maxHeartbeats 4000000 in
theorem cmp_c (x y : Int) (w : World) : Calls Tryz.prog 191 #[.int .i64 x, .int .i64 y] w (RetI w) := by
  have HN := Lib.hid nan_c
  rcases Int.lt_trichotomy x y with h | h | h
  · have h2 : ¬ y < x := by omega
    go_enter Tryz.func191, Tryz.ntmps191
    go_wp2_with (first | (refine (HN.out x _).mono ?_; rintro _ _ ⟨rfl, rfl⟩) | (refine (HN.out y _).mono ?_; rintro _ _ ⟨rfl, rfl⟩))
    go_ret
    exact ⟨_, rfl, Below.refl _ _⟩
  · subst h
    go_enter Tryz.func191, Tryz.ntmps191
    go_wp2_with (refine (HN.out x _).mono ?_; rintro _ _ ⟨rfl, rfl⟩)
    go_ret
    exact ⟨_, rfl, Below.refl _ _⟩
  · have h2 : ¬ x < y := by omega
    go_enter Tryz.func191, Tryz.ntmps191
    go_wp2_with (first | (refine (HN.out x _).mono ?_; rintro _ _ ⟨rfl, rfl⟩) | (refine (HN.out y _).mono ?_; rintro _ _ ⟨rfl, rfl⟩))
    go_ret
    exact ⟨_, rfl, Below.refl _ _⟩
def WIs (w wx : World) : Prop := wx = w
set_option maxRecDepth 100000 in
set_option maxHeartbeats 4000000 in
theorem or_c (g : Nat) (x y : Int) (w : World) (h : Blk w g 3 #[.int .i64 x, .int .i64 y]) : Calls Tryz.prog 190 #[.slice (some ⟨g, 0, none⟩) 2 2] w (RetI w) := by
  obtain ⟨c0, c1, -, -, lg⟩ := h.two
  clear h
  by_cases hx : x = 0
  · by_cases hy : y = 0
    all_goals
      go_enter Tryz.func190, Tryz.ntmps190
      go_wp2_with fail
      go_loopw [8] (fun iv wx => (∃ i : Nat, i ≤ 2 ∧ iv = .int .i64 i) ∧ Hid (WIs w wx)) (fun iv _ => 2 - (intOf iv).toNat)
      case atStart => exact ⟨⟨0, by omega, rfl⟩, Lib.hid rfl⟩
      case round =>
        obtain ⟨⟨i, hi, rfl⟩, hw⟩ := hrel
        obtain rfl : wr = w := hw.out
        have hi2 : i = 0 ∨ i = 1 ∨ i = 2 := by omega
        rcases hi2 with rfl | rfl | rfl
        · go_wp2_with fail
          go_roundw
          case rel => exact ⟨⟨1, by omega, by go_num⟩, Lib.hid rfl⟩
          case measure => simp [intOf]
        · go_wp2_with fail
          first
          | (go_roundw
             case rel => exact ⟨⟨2, by omega, by go_num⟩, Lib.hid rfl⟩
             case measure => simp [intOf])
          | (go_ret
             exact ⟨_, rfl, Below.refl _ _⟩)
        · go_wp2_with fail
          go_ret
          exact ⟨_, rfl, Below.refl _ _⟩
  · go_enter Tryz.func190, Tryz.ntmps190
    go_wp2_with fail
    go_loopw [8] (fun iv wx => iv = .int .i64 0 ∧ Hid (WIs w wx)) (fun iv _ => 0)
    case atStart => exact ⟨rfl, Lib.hid rfl⟩
    case round =>
      obtain ⟨rfl, hw⟩ := hrel
      obtain rfl : wr = w := hw.out
      go_wp2_with fail
      go_ret
      exact ⟨_, rfl, Below.refl _ _⟩
set_option maxRecDepth 100000 in
set_option maxHeartbeats 4000000 in
theorem ids_c : ∀ (xs ys : List Value) (hx : xs.length = 2) (hy : ys.length = 2) (a0 a1 b0 b1 : Int) (h1 : xs[1]? = some (.int .i64 a0)) (h2 : xs[0]? = some (.int .i64 a1)) (h3 : ys[1]? = some (.int .i64 b0)) (h4 : ys[0]? = some (.int .i64 b1)) (w : World), Calls Tryz.prog 305 #[.agg xs.toArray, .agg ys.toArray] w (RetI w) := by
  intro xs ys hx hy a0 a1 b0 b1 h1 h2 h3 h4 w
  have HC := Lib.hid cmp_c
  have HO := Lib.hid or_c
  have S0 := Lib.hid (Bxs.start w [(27, xs.toArray), (27, ys.toArray)])
  simp only [allocAll] at S0
  have X0 := (show Blk _ w.heap.size _ _ from S0.out.box 0 _ _ rfl)
  have X1 := (show Blk _ (w.heap.size + 1) _ _ from S0.out.box 1 _ _ rfl)
  have C0 : AllCells ((w.alloc (.cells xs.toArray 27)).alloc (.cells ys.toArray 27)).drew [(⟨w.heap.size, 1, none⟩, .int .i64 a0), (⟨w.heap.size, 0, none⟩, .int .i64 a1), (⟨w.heap.size + 1, 1, none⟩, .int .i64 b0), (⟨w.heap.size + 1, 0, none⟩, .int .i64 b1)] :=
    ⟨(X0.cell 1).trans (by simpa using h1), (X0.cell 0).trans (by simpa using h2), (X1.cell 1).trans (by simpa using h3), (X1.cell 0).trans (by simpa using h4), trivial⟩
  clear X0 X1 h1 h2 h3 h4 hx hy
  generalize xs.toArray = cx at *
  generalize ys.toArray = cy at *
  go_enter Tryz.func305, Tryz.ntmps305
  go_wp2_with fail
  refine rfree [0, 1, 2, 3, 5, 6, 7, 8] 5 (by kernel_rfl) (fun _ _ _ _ _ h => h) C0 ?_
  intro hne hu; try simp only [AllCells] at hu
  simp only [pick, pk]
  repeat (go_big_quiet_step (fail))
  refine wpQuiet_nil ?_; clear hne hu
  have SW := Lib.hid S0.out.drew
  clear S0
  generalize ((w.alloc _).alloc _).drew = V at *
  refine anyN_oneL 4 (by kernel_rfl) ?_; simp only [pk]
  go_wp2_with fail
  refine (HC.out _ _ _).mono ?_
  rintro _ w1 ⟨k1, rfl, b1⟩
  have C1 := AllCells.below C0 b1
  have S1 := Lib.hid (SW.out.next b1)
  clear b1 C0 SW
  go_wp2_with fail
  first | refine And.intro (fun _ => C1) ?_ | refine And.intro C1 ?_ | skip
  refine anyN_oneL 9 (by kernel_rfl) ?_; simp only [pk]
  go_wp2_with fail
  refine (HC.out _ _ _).mono ?_
  rintro _ w2 ⟨k2, rfl, b2⟩
  have C2 := AllCells.below C1 b2
  have S2 := Lib.hid (S1.out.next b2)
  clear b2 C1 S1
  go_wp2_with fail
  first | refine And.intro (fun _ => C2) ?_ | refine And.intro C2 ?_ | skip
  refine anyN_oneL 10 (by kernel_rfl) ?_; simp only [pk]
  go_wp2_with fail
  have b3 : Below w2.heap.size w2 (w2.alloc (.cells #[.int .i64 k1, .int .i64 k2] 3)) := (Below.refl _ _).alloc (Nat.le_refl _) _
  have C3 := AllCells.below C2 b3
  have S3 := Lib.hid (S2.out.next b3)
  have HB := Lib.hid (Blk.new w2 3 #[.int .i64 k1, .int .i64 k2])
  clear b3 C2 S2
  first | refine And.intro (fun _ => C3) ?_ | refine And.intro C3 ?_ | skip
  refine anyN_oneL 11 (by kernel_rfl) ?_; simp only [pk]
  go_wp2_with fail
  refine (HO.out _ _ _ _ HB.out).mono ?_
  rintro _ w4 ⟨k4, rfl, b4⟩
  have C4 := AllCells.below C3 b4
  have S4 := Lib.hid (S3.out.next b4)
  clear b4 C3 S3
  go_wp2_with fail
  first | refine And.intro (fun _ => C4) ?_ | refine And.intro C4 ?_ | skip
  refine rmore [12] 0 (by kernel_rfl) (fun _ _ _ _ _ h => h) C4 ?_
  intro hne hu; try simp only [AllCells] at hu
  simp only [pick, pk]
  repeat (go_big_quiet_step (fail))
  refine wpQuiet_nil ?_; clear hne hu
  refine ⟨by kernel_rfl, ?_⟩
  go_wp2_with fail
  go_ret
  exact ⟨k4, rfl, S4.out.below⟩
set_option maxRecDepth 100000 in
set_option maxHeartbeats 4000000 in
theorem live_c : ∀ (xs ys : List Value) (hx : xs.length = 35) (hy : ys.length = 35) (a0 a1 b0 b1 : Int) (h1 : xs[0]? = some (.int .i64 a0)) (h2 : xs[1]? = some (.int .i64 a1)) (h3 : ys[0]? = some (.int .i64 b0)) (h4 : ys[1]? = some (.int .i64 b1)) (w : World), Calls Tryz.prog 189 #[.agg xs.toArray, .agg ys.toArray] w (RetI w) := by
  intro xs ys hx hy a0 a1 b0 b1 h1 h2 h3 h4 w
  have HC := Lib.hid cmp_c
  have HO := Lib.hid or_c
  have S0 := Lib.hid (Bxs.start w [(243, xs.toArray), (243, ys.toArray)])
  simp only [allocAll] at S0
  have X0 := (show Blk _ w.heap.size _ _ from S0.out.box 0 _ _ rfl)
  have X1 := (show Blk _ (w.heap.size + 1) _ _ from S0.out.box 1 _ _ rfl)
  have C0 : AllCells ((w.alloc (.cells xs.toArray 243)).alloc (.cells ys.toArray 243)).drew [(⟨w.heap.size, 0, none⟩, .int .i64 a0), (⟨w.heap.size, 1, none⟩, .int .i64 a1), (⟨w.heap.size + 1, 0, none⟩, .int .i64 b0), (⟨w.heap.size + 1, 1, none⟩, .int .i64 b1)] :=
    ⟨(X0.cell 0).trans (by simpa using h1), (X0.cell 1).trans (by simpa using h2), (X1.cell 0).trans (by simpa using h3), (X1.cell 1).trans (by simpa using h4), trivial⟩
  clear X0 X1 h1 h2 h3 h4 hx hy
  generalize xs.toArray = cx at *
  generalize ys.toArray = cy at *
  go_enter Tryz.func189, Tryz.ntmps189
  go_wp2_with fail
  refine rfree [0, 1, 2, 3, 5, 6, 7, 8] 5 (by kernel_rfl) (fun _ _ _ _ _ h => h) C0 ?_
  intro hne hu; try simp only [AllCells] at hu
  simp only [pick, pk]
  repeat (go_big_quiet_step (fail))
  refine wpQuiet_nil ?_; clear hne hu
  have SW := Lib.hid S0.out.drew
  clear S0
  generalize ((w.alloc _).alloc _).drew = V at *
  refine anyN_oneL 4 (by kernel_rfl) ?_; simp only [pk]
  go_wp2_with fail
  refine (HC.out _ _ _).mono ?_
  rintro _ w1 ⟨k1, rfl, b1⟩
  have C1 := AllCells.below C0 b1
  have S1 := Lib.hid (SW.out.next b1)
  clear b1 C0 SW
  go_wp2_with fail
  first | refine And.intro (fun _ => C1) ?_ | refine And.intro C1 ?_ | skip
  refine anyN_oneL 9 (by kernel_rfl) ?_; simp only [pk]
  go_wp2_with fail
  refine (HC.out _ _ _).mono ?_
  rintro _ w2 ⟨k2, rfl, b2⟩
  have C2 := AllCells.below C1 b2
  have S2 := Lib.hid (S1.out.next b2)
  clear b2 C1 S1
  go_wp2_with fail
  first | refine And.intro (fun _ => C2) ?_ | refine And.intro C2 ?_ | skip
  refine anyN_oneL 10 (by kernel_rfl) ?_; simp only [pk]
  go_wp2_with fail
  have b3 : Below w2.heap.size w2 (w2.alloc (.cells #[.int .i64 k1, .int .i64 k2] 3)) := (Below.refl _ _).alloc (Nat.le_refl _) _
  have C3 := AllCells.below C2 b3
  have S3 := Lib.hid (S2.out.next b3)
  have HB := Lib.hid (Blk.new w2 3 #[.int .i64 k1, .int .i64 k2])
  clear b3 C2 S2
  first | refine And.intro (fun _ => C3) ?_ | refine And.intro C3 ?_ | skip
  refine anyN_oneL 11 (by kernel_rfl) ?_; simp only [pk]
  go_wp2_with fail
  refine (HO.out _ _ _ _ HB.out).mono ?_
  rintro _ w4 ⟨k4, rfl, b4⟩
  have C4 := AllCells.below C3 b4
  have S4 := Lib.hid (S3.out.next b4)
  clear b4 C3 S3
  go_wp2_with fail
  first | refine And.intro (fun _ => C4) ?_ | refine And.intro C4 ?_ | skip
  refine rmore [12] 0 (by kernel_rfl) (fun _ _ _ _ _ h => h) C4 ?_
  intro hne hu; try simp only [AllCells] at hu
  simp only [pick, pk]
  repeat (go_big_quiet_step (fail))
  refine wpQuiet_nil ?_; clear hne hu
  refine ⟨by kernel_rfl, ?_⟩
  go_wp2_with fail
  go_ret
  exact ⟨k4, rfl, S4.out.below⟩
theorem liveK : CmpK Lv.cs 189 := fun x y w => live_c x.cs y.cs x.length y.length x.r x.c y.r y.c rfl rfl rfl rfl w
end Go.Proofs.YtoicnghjjgkebaaGreatDoor
namespace Go.Proofs.YtoicnghjjgkebaaGreatDoor
open Go.RowKit
set_option maxRecDepth 100000 in
set_option maxHeartbeats 4000000 in
theorem cellK : CmpK Cel.cs 254 := by
  intro x y w
  obtain ⟨⟨a, b⟩, c, d⟩ := x
  obtain ⟨⟨a', b'⟩, c', d'⟩ := y
  show Calls Tryz.prog 254 #[.agg #[.int .i64 a, .int .i64 b, .int .i64 c, .int .i64 d], .agg #[.int .i64 a', .int .i64 b', .int .i64 c', .int .i64 d']] w (RetI w)
  have HC := Lib.hid (fun (a b c d : Int) w => (show Calls Tryz.prog 305 #[.agg #[.int .i64 a, .int .i64 b], .agg #[.int .i64 c, .int .i64 d]] w (RetI w) from ids_c [.int .i64 a, .int .i64 b] [.int .i64 c, .int .i64 d] rfl rfl b a d c rfl rfl rfl rfl w))
  have HO := Lib.hid or_c
  have S0 := Lib.hid (Bxs.start w [(29, #[.int .i64 a, .int .i64 b, .int .i64 c, .int .i64 d]), (29, #[.int .i64 a', .int .i64 b', .int .i64 c', .int .i64 d'])])
  simp only [allocAll] at S0
  have X0 := (show Blk _ w.heap.size _ _ from S0.out.box 0 _ _ rfl)
  have X1 := (show Blk _ (w.heap.size + 1) _ _ from S0.out.box 1 _ _ rfl)
  have C0 : AllCells ((w.alloc (.cells #[.int .i64 a, .int .i64 b, .int .i64 c, .int .i64 d] 29)).alloc (.cells #[.int .i64 a', .int .i64 b', .int .i64 c', .int .i64 d'] 29)).drew [(⟨w.heap.size, 0, none⟩, .int .i64 a), (⟨w.heap.size, 1, none⟩, .int .i64 b), (⟨w.heap.size, 2, none⟩, .int .i64 c), (⟨w.heap.size, 3, none⟩, .int .i64 d), (⟨w.heap.size + 1, 0, none⟩, .int .i64 a'), (⟨w.heap.size + 1, 1, none⟩, .int .i64 b'), (⟨w.heap.size + 1, 2, none⟩, .int .i64 c'), (⟨w.heap.size + 1, 3, none⟩, .int .i64 d')] :=
    ⟨X0.cell 0, X0.cell 1, X0.cell 2, X0.cell 3, X1.cell 0, X1.cell 1, X1.cell 2, X1.cell 3, trivial⟩
  clear X0 X1
  go_enter Tryz.func254, Tryz.ntmps254
  go_wp2_with fail
  refine rfree [0, 1, 2, 3, 5, 6, 7, 8] 5 (by kernel_rfl) (fun _ _ _ _ _ h => h) C0 ?_
  intro hne hu; try simp only [AllCells] at hu
  simp only [pick, pk]
  repeat (go_big_quiet_step (fail))
  refine wpQuiet_nil ?_; clear hne hu
  have SW := Lib.hid S0.out.drew
  clear S0
  generalize ((w.alloc _).alloc _).drew = V at *
  refine anyN_oneL 4 (by kernel_rfl) ?_; simp only [pk]
  go_wp2_with fail
  refine (HC.out _ _ _ _ _).mono ?_
  rintro _ w1 ⟨k1, rfl, b1⟩
  have C1 := AllCells.below C0 b1
  have S1 := Lib.hid (SW.out.next b1)
  clear b1 C0 SW
  go_wp2_with fail
  first | refine And.intro (fun _ => C1) ?_ | refine And.intro C1 ?_ | skip
  refine anyN_oneL 9 (by kernel_rfl) ?_; simp only [pk]
  go_wp2_with fail
  refine (HC.out _ _ _ _ _).mono ?_
  rintro _ w2 ⟨k2, rfl, b2⟩
  have C2 := AllCells.below C1 b2
  have S2 := Lib.hid (S1.out.next b2)
  clear b2 C1 S1
  go_wp2_with fail
  first | refine And.intro (fun _ => C2) ?_ | refine And.intro C2 ?_ | skip
  refine anyN_oneL 10 (by kernel_rfl) ?_; simp only [pk]
  go_wp2_with fail
  have b3 : Below w2.heap.size w2 (w2.alloc (.cells #[.int .i64 k1, .int .i64 k2] 3)) := (Below.refl _ _).alloc (Nat.le_refl _) _
  have C3 := AllCells.below C2 b3
  have S3 := Lib.hid (S2.out.next b3)
  have HB := Lib.hid (Blk.new w2 3 #[.int .i64 k1, .int .i64 k2])
  clear b3 C2 S2
  first | refine And.intro (fun _ => C3) ?_ | refine And.intro C3 ?_ | skip
  refine anyN_oneL 11 (by kernel_rfl) ?_; simp only [pk]
  go_wp2_with fail
  refine (HO.out _ _ _ _ HB.out).mono ?_
  rintro _ w4 ⟨k4, rfl, b4⟩
  have C4 := AllCells.below C3 b4
  have S4 := Lib.hid (S3.out.next b4)
  clear b4 C3 S3
  go_wp2_with fail
  first | refine And.intro (fun _ => C4) ?_ | refine And.intro C4 ?_ | skip
  refine rmore [12] 0 (by kernel_rfl) (fun _ _ _ _ _ h => h) C4 ?_
  intro hne hu; try simp only [AllCells] at hu
  simp only [pick, pk]
  repeat (go_big_quiet_step (fail))
  refine wpQuiet_nil ?_; clear hne hu
  refine ⟨by kernel_rfl, ?_⟩
  go_wp2_with fail
  go_ret
  exact ⟨k4, rfl, S4.out.below⟩
set_option maxRecDepth 100000 in
set_option maxHeartbeats 4000000 in
theorem len64_c (n : Nat) (h : n ≤ 12) (w : World) : Calls Tryz.prog 273 #[.int .u64 n] w (RetI w) := by
  have h2 : n = 0 ∨ n = 1 ∨ n = 2 ∨ n = 3 ∨ n = 4 ∨ n = 5 ∨ n = 6 ∨ n = 7 ∨ n = 8 ∨ n = 9 ∨ n = 10 ∨ n = 11 ∨ n = 12 := by omega
  rcases h2 with rfl | rfl | rfl | rfl | rfl | rfl | rfl | rfl | rfl | rfl | rfl | rfl | rfl
  all_goals
    go_enter Tryz.func273, Tryz.ntmps273
    go_wp2_with fail
    go_ret
    exact ⟨_, rfl, Below.refl _ _⟩
set_option maxRecDepth 100000 in
set_option maxHeartbeats 4000000 in
theorem blen_c (n : Nat) (h : n ≤ 12) (w : World) : Calls Tryz.prog 201 #[.int .u64 n] w (RetI w) := by
  have HL := Lib.hid (len64_c n h)
  clear h
  go_enter Tryz.func201, Tryz.ntmps201
  go_wp2_with fail
  refine (HL.out _).mono ?_
  rintro _ w1 ⟨k, rfl, b1⟩
  have B1 := Lib.hid b1
  clear b1
  go_wp2_with fail
  go_ret
  exact ⟨k, rfl, B1.out⟩
set_option maxRecDepth 100000 in
set_option maxHeartbeats 4000000 in
theorem inscell_n (w : World) : Calls Tryz.prog 341 #[.slice none 0 0, .int .i64 0, .int .i64 0, .func (.func 254) #[] #[]] w fun e w' => e = .returned (.tuple #[]) ∧ w' = w := by
  go_enter Tryz.func341, Tryz.ntmps341
  go_wp2_with fail
  go_loopw [8] (fun iv wx => iv = .int .i64 1 ∧ Hid (WIs w wx)) (fun _ _ => 0)
  case atStart => exact ⟨by go_num, Lib.hid rfl⟩
  case round =>
    obtain ⟨rfl, hw⟩ := hrel
    obtain rfl : wr = w := hw.out
    go_wp2_with fail
    go_end0
    exact ⟨rfl, rfl⟩
/-- What a sort leaves: a permutation; of nothing, nothing. -/
def SortCelP (us : List Cel) (A : Option Addr) (w : World) (e : Ending) (w' : World) : Prop := e = .returned (.tuple #[]) ∧ ((A = none ∧ Below w.heap.size w w') ∨ ∃ g, A = some ⟨g, 0, none⟩ ∧ SrtK Cel.cs g us w w')
set_option maxRecDepth 100000 in
set_option maxHeartbeats 4000000 in
theorem pdqcell_c (us : List Cel) (A : Option Addr) (w : World) (n cap : Nat) (k : Int) (hn : us.length = n) (hm : n ≤ 12) (hA : (A = none ∧ n = 0 ∧ cap = 0) ∨ ∃ g, A = some ⟨g, 0, none⟩ ∧ Seg w g (us.flatMap Cel.cs)) :
    Calls Tryz.prog 330 #[.slice A n cap, .int .i64 0, .int .i64 n, .int .i64 k, .func (.func 254) #[] #[]] w (SortCelP us A w) := by
  have HC : Hid (∀ W, W = w → Calls Tryz.prog 341 #[.slice A n cap, .int .i64 0, .int .i64 n, .func (.func 254) #[] #[]] W (SortCelP us A w)) := by
    refine Lib.hid ?_
    rintro W rfl
    rcases hA with ⟨rfl, rfl, rfl⟩ | ⟨g, rfl, hS⟩
    · exact (inscell_n W).mono fun e w' ⟨h1, h2⟩ => ⟨h1, .inl ⟨rfl, by rw [h2]; exact Below.refl _ _⟩⟩
    · exact (inscell_c cellK us W g n cap hS hn (by omega)).mono fun e w' ⟨h1, h2⟩ => ⟨h1, .inr ⟨g, rfl, h2⟩⟩
  have hm2 : (n : Int) ≤ 12 := by omega
  clear hA hn
  go_enter Tryz.func330, Tryz.ntmps330
  go_wp2_with fail
  go_loopw [1, 2] (fun iv jv wx => iv = .int .i64 0 ∧ jv = .int .i64 n ∧ Hid (WIs w wx)) (fun _ _ _ => 0)
  case atStart => exact ⟨rfl, rfl, Lib.hid rfl⟩
  case round =>
    obtain ⟨rfl, rfl, hw⟩ := hrel
    obtain rfl : wr = w := hw.out
    go_wp2_with fail
    refine (HC.out _ rfl).mono ?_
    rintro _ w1 ⟨rfl, h1⟩
    have H1 := Lib.hid h1
    clear h1
    go_wp2_with fail
    go_end0
    exact ⟨rfl, H1.out⟩
set_option maxRecDepth 100000 in
set_option maxHeartbeats 4000000 in
theorem sortcell_c (us : List Cel) (A : Option Addr) (w : World) (n cap : Nat) (hn : us.length = n) (hm : n ≤ 12) (hA : (A = none ∧ n = 0 ∧ cap = 0) ∨ ∃ g, A = some ⟨g, 0, none⟩ ∧ Seg w g (us.flatMap Cel.cs)) :
    Calls Tryz.prog 303 #[.slice A n cap, .func (.func 254) #[] #[]] w (SortCelP us A w) := by
  have HL := Lib.hid (blen_c n hm)
  have HP : Hid (∀ k W, Below w.heap.size w W → Calls Tryz.prog 330 #[.slice A n cap, .int .i64 0, .int .i64 n, .int .i64 k, .func (.func 254) #[] #[]] W (SortCelP us A w)) := by
    refine Lib.hid fun k W hb => ?_
    refine (pdqcell_c us A W n cap k hn hm ?_).mono ?_
    · rcases hA with hA | ⟨g, rfl, hS⟩
      · exact .inl hA
      · exact .inr ⟨g, rfl, hS.below hb⟩
    · rintro e w' ⟨h1, ⟨h2, h3⟩ | ⟨g, h2, us', h3, h4, h5, h6⟩⟩
      · exact ⟨h1, .inl ⟨h2, hb.trans (h3.mono hb.size)⟩⟩
      · exact ⟨h1, .inr ⟨g, h2, us', h3, h4, (Chg.of hb).trans h5 (fun _ _ h => h), ((TyK.refl _).next hb).trans h6⟩⟩
  clear hA hn
  go_enter Tryz.func303, Tryz.ntmps303
  go_wp2_with fail
  refine (HL.out _).mono ?_
  rintro _ w1 ⟨k, rfl, b1⟩
  have B1 := Lib.hid b1
  clear b1
  go_wp2_with fail
  refine (HP.out _ _ B1.out).mono ?_
  rintro _ w2 ⟨rfl, h1⟩
  have H1 := Lib.hid h1
  clear h1
  go_wp2_with fail
  go_end0
  exact ⟨rfl, H1.out⟩
set_option maxRecDepth 100000 in
set_option maxHeartbeats 4000000 in
theorem inslive_n (w : World) : Calls Tryz.prog 306 #[.slice none 0 0, .int .i64 0, .int .i64 0, .func (.func 189) #[] #[]] w fun e w' => e = .returned (.tuple #[]) ∧ w' = w := by
  go_enter Tryz.func306, Tryz.ntmps306
  go_wp2_with fail
  go_loopw [8] (fun iv wx => iv = .int .i64 1 ∧ Hid (WIs w wx)) (fun _ _ => 0)
  case atStart => exact ⟨by go_num, Lib.hid rfl⟩
  case round =>
    obtain ⟨rfl, hw⟩ := hrel
    obtain rfl : wr = w := hw.out
    go_wp2_with fail
    go_end0
    exact ⟨rfl, rfl⟩
/-- What a sort leaves: a permutation; of nothing, nothing. -/
def SortLvP (us : List Lv) (A : Option Addr) (w : World) (e : Ending) (w' : World) : Prop := e = .returned (.tuple #[]) ∧ ((A = none ∧ Below w.heap.size w w') ∨ ∃ g, A = some ⟨g, 0, none⟩ ∧ SrtK Lv.cs g us w w')
set_option maxRecDepth 100000 in
set_option maxHeartbeats 4000000 in
theorem pdqlive_c (us : List Lv) (A : Option Addr) (w : World) (n cap : Nat) (k : Int) (hn : us.length = n) (hm : n ≤ 12) (hA : (A = none ∧ n = 0 ∧ cap = 0) ∨ ∃ g, A = some ⟨g, 0, none⟩ ∧ Seg w g (us.flatMap Lv.cs)) :
    Calls Tryz.prog 256 #[.slice A n cap, .int .i64 0, .int .i64 n, .int .i64 k, .func (.func 189) #[] #[]] w (SortLvP us A w) := by
  have HC : Hid (∀ W, W = w → Calls Tryz.prog 306 #[.slice A n cap, .int .i64 0, .int .i64 n, .func (.func 189) #[] #[]] W (SortLvP us A w)) := by
    refine Lib.hid ?_
    rintro W rfl
    rcases hA with ⟨rfl, rfl, rfl⟩ | ⟨g, rfl, hS⟩
    · exact (inslive_n W).mono fun e w' ⟨h1, h2⟩ => ⟨h1, .inl ⟨rfl, by rw [h2]; exact Below.refl _ _⟩⟩
    · exact (inslive_c liveK us W g n cap hS hn (by omega)).mono fun e w' ⟨h1, h2⟩ => ⟨h1, .inr ⟨g, rfl, h2⟩⟩
  have hm2 : (n : Int) ≤ 12 := by omega
  clear hA hn
  go_enter Tryz.func256, Tryz.ntmps256
  go_wp2_with fail
  go_loopw [1, 2] (fun iv jv wx => iv = .int .i64 0 ∧ jv = .int .i64 n ∧ Hid (WIs w wx)) (fun _ _ _ => 0)
  case atStart => exact ⟨rfl, rfl, Lib.hid rfl⟩
  case round =>
    obtain ⟨rfl, rfl, hw⟩ := hrel
    obtain rfl : wr = w := hw.out
    go_wp2_with fail
    refine (HC.out _ rfl).mono ?_
    rintro _ w1 ⟨rfl, h1⟩
    have H1 := Lib.hid h1
    clear h1
    go_wp2_with fail
    go_end0
    exact ⟨rfl, H1.out⟩
set_option maxRecDepth 100000 in
set_option maxHeartbeats 4000000 in
theorem sortlive_c (us : List Lv) (A : Option Addr) (w : World) (n cap : Nat) (hn : us.length = n) (hm : n ≤ 12) (hA : (A = none ∧ n = 0 ∧ cap = 0) ∨ ∃ g, A = some ⟨g, 0, none⟩ ∧ Seg w g (us.flatMap Lv.cs)) :
    Calls Tryz.prog 188 #[.slice A n cap, .func (.func 189) #[] #[]] w (SortLvP us A w) := by
  have HL := Lib.hid (blen_c n hm)
  have HP : Hid (∀ k W, Below w.heap.size w W → Calls Tryz.prog 256 #[.slice A n cap, .int .i64 0, .int .i64 n, .int .i64 k, .func (.func 189) #[] #[]] W (SortLvP us A w)) := by
    refine Lib.hid fun k W hb => ?_
    refine (pdqlive_c us A W n cap k hn hm ?_).mono ?_
    · rcases hA with hA | ⟨g, rfl, hS⟩
      · exact .inl hA
      · exact .inr ⟨g, rfl, hS.below hb⟩
    · rintro e w' ⟨h1, ⟨h2, h3⟩ | ⟨g, h2, us', h3, h4, h5, h6⟩⟩
      · exact ⟨h1, .inl ⟨h2, hb.trans (h3.mono hb.size)⟩⟩
      · exact ⟨h1, .inr ⟨g, h2, us', h3, h4, (Chg.of hb).trans h5 (fun _ _ h => h), ((TyK.refl _).next hb).trans h6⟩⟩
  clear hA hn
  go_enter Tryz.func188, Tryz.ntmps188
  go_wp2_with fail
  refine (HL.out _).mono ?_
  rintro _ w1 ⟨k, rfl, b1⟩
  have B1 := Lib.hid b1
  clear b1
  go_wp2_with fail
  refine (HP.out _ _ B1.out).mono ?_
  rintro _ w2 ⟨rfl, h1⟩
  have H1 := Lib.hid h1
  clear h1
  go_wp2_with fail
  go_end0
  exact ⟨rfl, H1.out⟩
end Go.Proofs.YtoicnghjjgkebaaGreatDoor
namespace Go.Proofs.YtoicnghjjgkebaaGreatDoor
open Go.RowKit Go.Shelf
attribute [local go_sem] Oper.semAt_some
/-- What a loop's rounds keep: the objects that G speaks of. -/
structure KG (G : Obj → Prop) (A B : World) : Prop where
  size : A.heap.size ≤ B.heap.size
  keep : ∀ (k : Nat) (o : Obj), A.heap[k]? = some o → G o → B.heap[k]? = some o
section
variable {G : Obj → Prop} {A B C : World}
theorem KG.refl (A : World) : KG G A A := ⟨Nat.le_refl _, fun _ _ h _ => h⟩
theorem KG.trans (h : KG G A B) (k : KG G B C) : KG G A C := ⟨Nat.le_trans h.size k.size, fun j o hj ho => k.keep j o (h.keep j o hj ho) ho⟩
theorem KG.below (h : KG G A B) (k : Below A.heap.size B C) : KG G A C := ⟨Nat.le_trans h.size k.size, fun j o hj ho => (k.block j (Array.getElem?_eq_some_iff.1 hj).1).trans (h.keep j o hj ho)⟩
theorem KG.of (k : Below A.heap.size A B) : KG G A B := (KG.refl A).below k
theorem KG.put (hG : ∀ L, ¬ G (.loop L)) (W : World) (l : Nat) (L : Loop) (o' : Obj) (hl : W.heap[l]? = some (.loop L)) : KG G W (W.putObj l o') :=
  ⟨by simp [World.putObj], fun j o hj ho => (World.putObj_heap_other (fun e => by subst e; rw [hj] at hl; cases hl; exact hG _ ho)).trans hj⟩
theorem KG.grown (h : KG G A B) {r : Option Nat} (g : B.grownBy C r) (hr : ∀ k, r = some k → ∀ o, A.heap[k]? = some o → ¬ G o) : KG G A C :=
  ⟨Nat.le_trans h.size g.size, fun j o hj ho => (g.block j (Nat.lt_of_lt_of_le (Array.getElem?_eq_some_iff.1 hj).1 h.size) (fun e => hr j e.symm o hj ho)).trans (h.keep j o hj ho)⟩
theorem KG.set (h : KG G A B) {p : Addr} (hp : ∀ o, A.heap[p.block]? = some o → ¬ G o) (u : Value) : KG G A (B.setCell p u) :=
  ⟨by simp only [World.setCell, Array.size_modify]; exact h.size, fun j o hj ho => (Below.heap_setCell B p u j (fun e => hp o (e ▸ hj) ho)).trans (h.keep j o hj ho)⟩
theorem KG.mono {H : Obj → Prop} (h : KG G A B) (hH : ∀ o, H o → G o) : KG H A B := ⟨h.size, fun k o hk ho => h.keep k o hk (hH o ho)⟩
end
/-- The world's surroundings as they were, too, and all blocks below b. -/
structure KQ (G : Obj → Prop) (b : Nat) (A B : World) : Prop where
  kg : KG G A B
  os : B.os = A.os
  tape : B.tape = A.tape
  output : B.output = A.output
  old : ∀ k, k < b → k < A.heap.size → B.heap[k]? = A.heap[k]?
theorem KQ.of {G : Obj → Prop} {b : Nat} {A B : World} (h : Below A.heap.size A B) : KQ G b A B := ⟨.of h, h.os, h.tape, h.output, fun k _ hk => h.block k hk⟩
theorem KQ.grown {G : Obj → Prop} {b : Nat} {A B : World} {r : Option Nat} (g : A.grownBy B r) (hb : ∀ k, r = some k → b ≤ k) (hr : ∀ k, r = some k → ∀ o, A.heap[k]? = some o → ¬ G o) : KQ G b A B := ⟨(KG.refl A).grown g hr, g.os, g.tape, g.output, fun k hk h2 => g.block k h2 (fun e => by have := hb k e.symm; omega)⟩
theorem KQ.put {G : Obj → Prop} {b : Nat} (W : World) (l : Nat) (o o' : Obj) (hl : W.heap[l]? = some o) (hb : b ≤ l) (ho : ¬ G o) : KQ G b W (W.putObj l o') :=
  ⟨⟨by simp [World.putObj], fun j p hj hp => (World.putObj_heap_other (fun e => by subst e; rw [hj] at hl; cases hl; exact ho hp)).trans hj⟩, rfl, rfl, rfl, fun k hk _ => World.putObj_heap_other (by omega)⟩
theorem KQ.mono {G H : Obj → Prop} {b c : Nat} {A B : World} (h : KQ G b A B) (hc : c ≤ b) (hH : ∀ o, H o → G o) : KQ H c A B := ⟨h.kg.mono hH, h.os, h.tape, h.output, fun k hk h2 => h.old k (by omega) h2⟩
theorem KQ.below {G : Obj → Prop} {b : Nat} {w A B : World} (h : KQ G b A B) (k : Below w.heap.size w A) (hb : w.heap.size ≤ b) : Below w.heap.size w B :=
  ⟨h.os.trans k.os, h.tape.trans k.tape, h.output.trans k.output, Nat.le_trans k.size h.kg.size, fun j hj => (h.old j (by omega) (Nat.lt_of_lt_of_le hj k.size)).trans (k.block j hj)⟩
/-- All but walks over maps; and but loops and what is deferred. -/
def CG0 (o : Obj) : Prop := match o with | .mapIter .. => False | _ => True
def CG1 (o : Obj) : Prop := match o with | .mapIter .. => False | .loop _ => False | .deferred _ => False | _ => True
def Stab {β : Type} (G : Obj → Prop) (b : Nat) (J : β → World → Prop) : Prop := ∀ s A B, J s A → KQ G b A B → J s B
/-- What a function that is ranged over promises, whose own steps turn walks over maps alone. -/
def SeqQ {α : Type} (F : Fence) (n : Nat) (P : Program) (g : Nat) (lb : Array Value) (encs : α → Array Value) (Kp : World → World → Prop) (S Sp : List α → Prop) (N : Nat) (w : World) : Prop :=
  ∀ (l : Nat) (J Jx : List α → World → Prop) (W : World), Below w.heap.size w W → Stab CG0 W.heap.size J → Stab CG0 W.heap.size Jx →
    (∀ pre x W1, J pre W1 → pre.length < N → YieldAt F (n - 1) P l (encs x) W1 fun e W' => (e = .returned (.bool true) ∧ J (pre ++ [x]) W' ∧ Kp W1 W') ∨ (e = .returned (.bool false) ∧ Jx (pre ++ [x]) W')) →
    J [] W → CallsIn F n P g (#[.func (.yield l) #[] #[]] ++ lb) W fun e W' => (∃ v, e = .returned v) ∧ ((∃ xs, S xs ∧ J xs W') ∨ (∃ pre, Sp pre ∧ Jx pre W'))
def leftNum (w : World) (b r : Nat) : Nat := match w.heap[b]?, w.heap[r]? with
  | some (.map es _), some (.mapIter _ _ seen _) => (leftOf es seen).size
  | _, _ => 0
theorem RangeG.num {K : Type} {enc : K → Value} {w : World} {b r : Nat} {l rem : List (K × Value)} (h : RangeG enc w b r l rem) : leftNum w b r = rem.length := by
  obtain ⟨es, clock, since, seen, c0, h1, _, _, h4, _, _, _, h8⟩ := h
  unfold leftNum
  rw [h1, h4]
  have := congrArg List.length h8
  simpa using this
theorem RangeG.keep {K : Type} {enc : K → Value} {G : Obj → Prop} {w w' : World} {b r : Nat} {l rem : List (K × Value)} (h : RangeG enc w b r l rem) (k : KG G w w') (h1 : ∀ es c, G (.map es c)) (h2 : ∀ a b c d, G (.mapIter a b c d)) : RangeG enc w' b r l rem := by
  obtain ⟨es, clock, since, seen, c0, a1, a2, a3, a4, a5⟩ := h
  exact ⟨es, clock, since, seen, c0, k.keep _ _ a1 (h1 _ _), a2, a3, k.keep _ _ a4 (h2 _ _ _ _), a5⟩
set_option maxRecDepth 100000 in
set_option maxHeartbeats 2000000 in
theorem keys_c (m : Option Nat) (w : World) : Calls Tryz.prog 253 #[.map m] w fun e w' => e = .returned (.func (.func 304) #[] #[.pointer (some ⟨w.heap.size, 0, none⟩)]) ∧ w' = w.alloc (.cells #[.map m] 114) := by
  go_enter Tryz.func253, Tryz.ntmps253
  go_wp2
  go_ret
  exact ⟨rfl, rfl⟩
def KeyG (o : Obj) : Prop := match o with
  | .cells _ e _ => e = 114 ∨ e = 116 ∨ e = 68
  | .map .. => True
  | .mapIter .. => True
  | _ => False
set_option maxRecDepth 100000 in
set_option maxHeartbeats 2000000 in
theorem keys_some (n : Nat) (hn : 1 ≤ n) (Bn b : Nat) (kv : List (Cel × Value)) (w : World) (hB : Blk w Bn 114 #[.map (some b)]) (hM : MapG celv w b kv) :
    SeqQ Fence.wide n Tryz.prog 304 #[.pointer (some ⟨Bn, 0, none⟩)] (fun c : Cel => #[celv c]) (KG KeyG) (fun xs => xs.Perm (kv.map Prod.fst)) (fun _ => True) kv.length w := by
  intro l J Jx W hW hJ hJx hY h0
  have c0 := (hB.kept (hW.block _ hB.lt)).cell 0
  have HM := Lib.hid (hM.kept (hW.block _ hM.lt))
  have HJ := Lib.hid hJ
  have HY := Lib.hid hY
  have H0 := Lib.hid h0
  have HX := Lib.hid hJx
  clear hJ hY h0 hB hM hJx hW
  refine callsIn_of_wp Tryz.func304 rfl trivial ?_ rfl
  simp only [Tryz.ntmps304, List.size_toArray, List.length_cons, List.length_nil, Nat.reduceAdd, Nat.reduceSub, Array.replicate_succ, Array.replicate_zero, List.push_toArray, List.append_toArray, List.nil_append, List.cons_append]
  obtain ⟨W1, hrun, hR, hb1, hs1⟩ := run_range_g W Tryz.underlying114 HM.out
  gi_wp2
  have hJ1 := Lib.hid (HJ.out [] W W1 H0.out (.of hb1))
  have HR := Lib.hid hR
  obtain ⟨r, hr⟩ : ∃ r, r = W.heap.size := ⟨_, rfl⟩
  rw [← hr] at HR ⊢
  have HB1 := Lib.hid hb1
  clear hR hrun hs1 hb1 c0 HM
  have HRS := Lib.hid hr
  clear hr
  gi_loopw [6] (fun _ wr => ∃ pre rem, Hid ((pre ++ rem.map Prod.fst).Perm (kv.map Prod.fst)) ∧ Hid (J pre wr) ∧ Hid (RangeG celv wr b r kv rem) ∧ Hid (W.heap.size ≤ wr.heap.size)) (fun _ wr => leftNum wr b r)
  case atStart => exact ⟨[], kv, Lib.hid (by simp), hJ1, HR, Lib.hid HB1.out.size⟩
  case round =>
    clear hJ1 HR
    obtain ⟨pre, rem, hp, hj, hR, hsz⟩ := hrel
    rcases run_next_g wr (ty := 0) hR.out with ⟨h0, hrun⟩ | ⟨k, v, p1, p2, w1, hrem, hrun, hR1, hg1, hs1, hen⟩
    · have HP := Lib.hid (show pre.Perm (kv.map Prod.fst) by have := hp.out; rw [h0] at this; simpa using this)
      clear h0
      gi_wp2
      go_end0
      exact ⟨⟨_, rfl⟩, .inl ⟨pre, HP.out, hj.out⟩⟩
    · have hlen : pre.length < kv.length := by
        have := hp.out.length_eq
        rw [hrem] at this
        simp at this
        omega
      have HL := Lib.hid hlen
      have HP := Lib.hid (show ((pre ++ [k]) ++ (p1 ++ p2).map Prod.fst).Perm (kv.map Prod.fst) by
        refine List.Perm.trans ?_ hp.out
        rw [hrem]
        simp only [List.map_append, List.map_cons, List.append_assoc, List.singleton_append]
        exact List.Perm.append_left _ List.perm_middle.symm)
      have HN := Lib.hid (show leftNum wr b r = p1.length + p2.length + 1 by rw [hR.out.num, hrem]; simp; omega)
      have HJ1 := Lib.hid (HJ.out _ _ _ hj.out (KQ.grown hg1 (fun k e => by cases e; exact Nat.le_of_eq HRS.out.symm) (fun k e o ho hG => by
        obtain ⟨_, _, _, _, _, _, _, _, h4, _⟩ := hR.out
        cases e
        rw [h4] at ho
        cases ho
        exact hG)))
      have HR1 := Lib.hid hR1
      have HS1 := Lib.hid (show W.heap.size ≤ w1.heap.size by rw [hs1]; exact hsz.out)
      obtain ⟨⟨a1, a2⟩, a3, a4⟩ := k
      clear hR1 hg1 hs1 hlen hrem hp hj hR hsz
      simp only [celv] at hrun hen
      have hb5 : Below w1.heap.size w1 (w1.alloc (.cells #[.int .i64 a1, .int .i64 a2, .int .i64 a3, .int .i64 a4] 29)) := (Below.refl _ _).alloc (Nat.le_refl _) _
      have HJ5 := Lib.hid (HJ.out _ _ _ HJ1.out (.of hb5))
      obtain ⟨fn, tmps, assign, body, hy, hRR⟩ := HY.out pre ((a1, a2), (a3, a4)) _ HJ5.out HL.out
      have HRR := Lib.hid (hRR.mono (R' := fun e W' => ∃ bb, e = .returned (.bool bb) ∧ Hid (if bb then J (pre ++ [((a1, a2), (a3, a4))]) W' ∧ KG KeyG (w1.alloc (.cells #[.int .i64 a1, .int .i64 a2, .int .i64 a3, .int .i64 a4] 29)) W' else Jx (pre ++ [((a1, a2), (a3, a4))]) W')) (by
        rintro e W' (⟨rfl, h1, h2⟩ | ⟨rfl, h1⟩)
        · exact ⟨true, rfl, h1, h2⟩
        · exact ⟨false, rfl, h1⟩))
      have HR5 := Lib.hid (HR1.out.kept (w' := w1.alloc (.cells #[.int .i64 a1, .int .i64 a2, .int .i64 a3, .int .i64 a4] 29)) (hb5.block _ HR1.out.lt.1) (hb5.block _ HR1.out.lt.2))
      simp only [celv] at hy
      clear hRR hb5
      gi_wp2_with (refine HRR.out.mono ?_; rintro e W3 ⟨bb, rfl, hbb⟩)
      · cases bb
        · have hx := hbb.out
          simp only [Bool.false_eq_true, if_false] at hx
          refine bodyPost_ret (results_none rfl _ _ _) rfl ?_
          exact ⟨⟨_, rfl⟩, .inr ⟨_, trivial, hx⟩⟩
        · exact absurd ‹(!true) = true› (by decide)
      · cases bb
        · exact absurd ‹(!false) = false› (by decide)
        · have hx := hbb.out
          simp only [if_true] at hx
          obtain ⟨hj3, hk3⟩ := hx
          have HR3 := Lib.hid (HR5.out.keep hk3 (fun _ _ => trivial) (fun _ _ _ _ => trivial))
          have HS3 := Lib.hid (show W.heap.size ≤ W3.heap.size from Nat.le_trans HS1.out (Nat.le_trans (by simp) hk3.size))
          go_roundw
          case rel => exact ⟨_, _, HP, Lib.hid hj3, HR3, HS3⟩
          case measure => rw [HR3.out.num, HN.out]; simp
end Go.Proofs.YtoicnghjjgkebaaGreatDoor
namespace Go.Proofs.YtoicnghjjgkebaaGreatDoor
open Go.RowKit Go.Shelf
theorem CG1_0 : ∀ o, CG1 o → CG0 o := fun o h => by cases o <;> first | trivial | exact h
theorem range_own2 {α : Type} {F : Fence} {n : Nat} {P : Program} {w : World} {g : Operand} {ps : Array Tmp} {assign body : Code} {Q : Exit → Act → World → Prop} {a : Act}
    (hro : F.round = none) (h1 : 1 ≤ n) {gf : Nat} {lb : Array Value} (hg : a.eval g = .func (.func gf) #[] lb) (hFg : F.fn gf) (eg : ∀ args w, (callFunc gf args).run P w = .ok (.enter gf args) w)
    {encs : α → Array Value} {Kp : World → World → Prop} {S Sp : List α → Prop} {N : Nat} (hseq : SeqQ F (n - 1) P gf lb encs Kp S Sp N w)
    (hKt : ∀ {A B C : World}, Kp A B → Kp B C → Kp A C) (hKb : ∀ (W : World) (l : Nat) (L : Loop) (o' : Obj), w.heap.size ≤ l → W.heap[l]? = some (.loop L) → Kp W (W.putObj l o')) (hps : ∀ x, (encs x).size = ps.size)
    (I : List α → World → Prop) (Ix : Code → List α → World → Prop) (hI : Stab CG1 w.heap.size I) (hIx : ∀ c, Stab CG1 w.heap.size (Ix c)) (h0 : I [] w) (Ax : α → Act → World → Prop) (hAx : ∀ (x : α) (a' : Act) (W : World) (l : Nat) (L : Loop) (o' : Obj), W.heap[l]? = some (.loop L) → Ax x a' W → Ax x a' (W.putObj l o'))
    (hassign : ∀ (l : Nat) (pre : List α) (x : α) (W : World) (K : Act → World → Prop), I pre W → (∀ a' W', KeepsFrom w.heap.size W W' → Kp W W' → I pre W' → Ax x a' W' → K a' W') →
      assign.wpIn (F.inRound l) (n - 1 - 1) P (Exit.then K (fun _ _ _ => False)) { tmps := (ps.zip (encs x)).foldl (fun t (p, v) => t.setIfInBounds p v) a.tmps, defers := [] } W)
    (hbody : ∀ (l : Nat) (pre : List α) (x : α) (a' : Act) (W : World), w.heap.size ≤ l → I pre W → Ax x a' W → pre.length < N → body.wpIn (F.inRound l) (n - 1 - 1) P (ownPostG w.heap.size Kp I Ix (pre ++ [x]) W) a' W)
    (hdone : ∀ (D : Nat) (xs : List α) (W : World), w.heap.size ≤ D → S xs → I xs W → W.heap[D]? = some (.deferred (some [])) → Q .normal { a with defers := { target := .collected D, args := #[] } :: a.defers } W)
    (hstop : ∀ (D : Nat) (c : Code) (pre : List α) (W : World), w.heap.size ≤ D → Sp pre → Ix c pre W → W.heap[D]? = some (.deferred (some [])) → c.wpIn F n P Q { a with defers := { target := .collected D, args := #[] } :: a.defers } W) :
    (Code.rangeFunc g ps assign body).wpIn F n P Q a w := by
  refine wpIn_rangeFunc fun fn hfn => ?_
  rw [hro]
  obtain ⟨rec, hrec⟩ : ∃ rec : LoopState → Option Code → Loop, rec = fun st pe => { state := st, pending := pe, fn, tmps := a.tmps, params := ps, assign, body, defers := w.heap.size } := ⟨_, rfl⟩
  obtain ⟨D, hD⟩ : ∃ D, w.heap.size = D := ⟨_, rfl⟩
  have hL1 : ((w.alloc (.deferred (some []))).alloc (.loop (rec .ready none))).heap[D + 1]? = some (.loop (rec .ready none)) := by
    have := World.alloc_heap_new (w.alloc (.deferred (some []))) (.loop (rec .ready none)); rwa [World.size_alloc, hD] at this
  have hK1 : ((w.alloc (.deferred (some []))).alloc (.loop (rec .ready none))).heap[D]? = some (.deferred (some [])) := by
    rw [← hD]; exact (Below.heap_alloc _ _ _ (by simp)).trans (World.alloc_heap_new w _)
  have hb1 : Below w.heap.size w ((w.alloc (.deferred (some []))).alloc (.loop (rec .ready none))) := ((Below.refl _ w).alloc (Nat.le_refl _) _).alloc (by simp) _
  have hs1 : ((w.alloc (.deferred (some []))).alloc (.loop (rec .ready none))).heap.size = D + 2 := by simp [hD]
  have henter := run_enterLoop_outer (P := P) (w := w) fn a.tmps ps assign body
  rw [show ({ state := .ready, pending := none, fn, tmps := a.tmps, params := ps, assign, body, defers := w.heap.size } : Loop) = rec .ready none by rw [hrec]] at henter
  have hI1 := hI _ _ _ h0 (.of hb1)
  generalize (w.alloc (.deferred (some []))).alloc (.loop (rec .ready none)) = W1 at *
  refine ⟨w.heap.size + 1, [{ target := .collected w.heap.size, args := #[] }], W1, { target := .fn (.func gf) lb, args := #[.func (.yield (w.heap.size + 1)) #[] #[]] }, W1, gf,
    #[.func (.yield (w.heap.size + 1)) #[] #[]] ++ lb, W1, henter, ?_, ?_, ?_, fun _ => h1, ?_⟩
  · simp only [resolve, hg]
    simp [go_sem]
  · intro f' hf'; simp [Target.leads] at hf'; subst hf'; exact hFg
  · simp [invoke, go_sem, eg]
  rw [hD] at hI hIx hassign hbody hdone hstop hKb ⊢
  have keepR : ∀ {A B : World} {L : Loop} {ds : _}, KQ CG0 W1.heap.size A B → A.heap[D + 1]? = some (.loop L) ∧ A.heap[D]? = some (.deferred ds) → B.heap[D + 1]? = some (.loop L) ∧ B.heap[D]? = some (.deferred ds) := fun hb h => ⟨hb.kg.keep _ _ h.1 trivial, hb.kg.keep _ _ h.2 trivial⟩
  refine (hseq (D + 1) (fun pre W => I pre W ∧ W.heap[D + 1]? = some (.loop (rec .ready none)) ∧ W.heap[D]? = some (.deferred (some [])))
    (fun pre W => ∃ c, Ix c pre W ∧ W.heap[D + 1]? = some (.loop (rec .done (some c))) ∧ W.heap[D]? = some (.deferred (some []))) W1 hb1
    (fun s A B h hb => ⟨hI _ _ _ h.1 (hb.mono (by omega) CG1_0), keepR hb h.2⟩) (fun s A B h hb => by obtain ⟨c, hc, h2⟩ := h; exact ⟨c, hIx c _ _ _ hc (hb.mono (by omega) CG1_0), keepR hb h2⟩) ?_ ⟨hI1, hL1, hK1⟩).mono ?_
  · rintro pre x W ⟨hi, hl, hk⟩ hlen
    have hlt : D + 1 < W.heap.size := (Array.getElem?_eq_some_iff.1 hl).1
    have hy := run_yield (P := P) (args := encs x) hl (by rw [hrec]; exact hps x)
    rw [hrec] at hy
    refine ⟨fn, _, assign, body, hy, roundIn_of_wpIn hfn (hassign _ pre x W _ hi fun a' W0 hkf hkp0 hi0 hax => ?_)⟩
    clear hy
    have hl := hkf.same _ _ (by omega) hl rfl
    have hk := hkf.same _ _ (Nat.le_refl _) hk rfl
    have hlt : D + 1 < W0.heap.size := (Array.getElem?_eq_some_iff.1 hl).1
    refine ⟨_, run_beginRound hl (by rw [hrec]), ?_⟩
    have hl2 : (W0.putObj (D + 1) (.loop { rec .ready none with state := .busy })).heap[D + 1]? = some (.loop { rec .ready none with state := .busy }) := World.putObj_heap_same hlt
    have hk2 : (W0.putObj (D + 1) (.loop { rec .ready none with state := .busy })).heap[D]? = some (.deferred (some [])) := (World.putObj_heap_other (by omega)).trans hk
    have hw2 : Kp W0 (W0.putObj (D + 1) (.loop { rec .ready none with state := .busy })) := hKb _ _ _ _ (by omega) hl
    refine wpIn_mono (hbody _ pre x a' _ (by omega) (hI _ _ _ hi0 (KQ.put _ _ _ _ hl (by omega) (fun h => h))) (hAx _ _ _ _ _ _ hl hax) hlen) ?_
    generalize W0.putObj (D + 1) _ = W2 at *
    have fin : ∀ (jump : Option Code) (W3 : World), KeepsFrom D W2 W3 → (Instr.endRound (D + 1) jump).run P W3 = .ok (.bool jump.isNone) (W3.putObj (D + 1) (.loop (rec (if jump.isNone then .ready else .done) jump))) ∧
        KQ CG1 D W3 (W3.putObj (D + 1) (.loop (rec (if jump.isNone then .ready else .done) jump))) ∧ W3.heap[D + 1]? = some (.loop { rec .ready none with state := .busy }) ∧
        (W3.putObj (D + 1) (.loop (rec (if jump.isNone then .ready else .done) jump))).heap[D + 1]? = some (.loop (rec (if jump.isNone then .ready else .done) jump)) ∧
        (W3.putObj (D + 1) (.loop (rec (if jump.isNone then .ready else .done) jump))).heap[D]? = some (.deferred (some [])) := fun jump W3 hk3 => by
      have hl3 := hk3.same _ _ (by omega) hl2 rfl
      have := run_endRound (P := P) jump hl3
      rw [hrec] at this ⊢
      exact ⟨this, KQ.put _ _ _ _ hl3 (by omega) (fun h => h), by rw [hrec] at hl3; exact hl3, World.putObj_heap_same (Array.getElem?_eq_some_iff.1 hl3).1, (World.putObj_heap_other (by omega)).trans (hk3.same _ _ (Nat.le_refl _) hk2 rfl)⟩
    have out : ∀ (c : Code) (W3 : World), KeepsFrom D W2 W3 → Ix c (pre ++ [x]) W3 → ∃ v w', (Instr.endRound (D + 1) (some c)).run P W3 = .ok v w' ∧ v = .bool false ∧ ∃ c', Ix c' (pre ++ [x]) w' ∧ w'.heap[D + 1]? = some (.loop (rec .done (some c'))) ∧ w'.heap[D]? = some (.deferred (some [])) := fun c W3 hk3 hi3 => by
      obtain ⟨hr, hb, -, hl4, hk4⟩ := fin (some c) W3 hk3
      exact ⟨_, _, hr, rfl, c, hIx c _ _ _ hi3 hb, hl4, hk4⟩
    rintro e a3 W3 hp
    cases e with
    | normal =>
      obtain ⟨hk3, hkp3, hi3⟩ := hp
      obtain ⟨hr, hb, hl3, hl4, hk4⟩ := fin none W3 hk3
      exact ⟨_, _, hr, .inl ⟨rfl, ⟨hI _ _ _ hi3 hb, hl4, hk4⟩, hKt hkp0 (hKt (hKt hw2 hkp3) (hKb _ _ _ _ (by omega) hl3))⟩⟩
    | ret =>
      obtain ⟨v, w', hr, rfl, h⟩ := out _ W3 hp.1 hp.2
      exact ⟨_, _, hr, .inr ⟨rfl, h⟩⟩
    | exit id =>
      obtain ⟨v, w', hr, rfl, h⟩ := out _ W3 hp.1 hp.2
      exact ⟨_, _, hr, .inr ⟨rfl, h⟩⟩
    | goto t =>
      obtain ⟨v, w', hr, rfl, h⟩ := out _ W3 hp.1 hp.2
      exact ⟨_, _, hr, .inr ⟨rfl, h⟩⟩
    | panic ch => exact hp.elim
    | outgrown => exact hp.elim
  · rintro e W2 ⟨⟨v, rfl⟩, (⟨xs, hS, hi, hl, hk⟩ | ⟨pre, hSp, c, hi, hl, hk⟩)⟩
    · exact ⟨none, _, by have := run_endLoop (P := P) hl (by rw [hrec]; simp); rw [hrec] at this; exact this, hdone _ xs _ (Nat.le_refl _) hS (hI _ _ _ hi (KQ.put _ _ _ _ hl (by omega) (fun h => h))) ((World.putObj_heap_other (by omega)).trans hk)⟩
    · exact ⟨some c, _, by have := run_endLoop (P := P) hl (by rw [hrec]; simp); rw [hrec] at this; exact this, hstop _ c pre _ (Nat.le_refl _) hSp (hIx c _ _ _ hi (KQ.put _ _ _ _ hl (by omega) (fun h => h))) ((World.putObj_heap_other (by omega)).trans hk)⟩
theorem m_end {f : Func} {F : Fence} {n k : Nat} {v : Value} {P : Program} {W : World} {DD : Nat} {a : Act} {R : Ending → World → Prop} (hres : f.results = #[.tmp k]) (hF : F.round = none) (ht : a.tmps.getD k undef = v) (hd : a.defers = [{ target := .collected DD, args := #[] }]) (hk : W.heap[DD]? = some (.deferred (some [])))
    (h : R (.returned v) (W.putObj DD (.deferred none))) : bodyPostM F n P f R .ret a W := by
  obtain ⟨tm, ds⟩ := a
  simp only at hd ht
  subst hd
  refine ⟨by simp, .inl ⟨_, _, rfl, run_takeDeferred hk, ?_⟩⟩
  exact ⟨_, by rw [results_tmp hres, ht], h⟩
end Go.Proofs.YtoicnghjjgkebaaGreatDoor
