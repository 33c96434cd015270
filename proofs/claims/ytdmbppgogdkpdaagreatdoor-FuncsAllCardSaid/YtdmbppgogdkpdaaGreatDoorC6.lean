/-
  Count, as the reference has it (printed by genC6.py). No condition.
-/
import Derived.Test.YtdmbppgogdkpdaaGreatDoorC3
namespace Go.Proofs.YtdmbppgogdkpdaaGreatDoor
open Go.RowKit Go.Maps Go.Sort Go.Shelf
set_option maxRecDepth 100000 in
set_option maxHeartbeats 4000000 in
theorem count9 (s : ByteArray) (w : World) : Calls Tryz.prog 9 #[.string s] w fun e w' => e = .returned (.tuple #[.int .i64 (countR s.toList).1, .int .i64 (countR s.toList).2.1, .bool (countR s.toList).2.2]) ∧ Below w.heap.size w w' := by
  go_enter Tryz.func9, Tryz.ntmps9
  cases b0 : s.toList == [73, 70]
  case true =>
    go_wp2_with fail
    go_ret3
    exact ⟨by simp [countR, lazyR, isIn, b0], Below.refl _ _⟩
  cases b1 : s.toList == [73, 70, 69, 82, 82, 79, 82]
  case true =>
    go_wp2_with fail
    go_ret3
    exact ⟨by simp [countR, lazyR, isIn, b0, b1], Below.refl _ _⟩
  cases b2 : s.toList == [73, 70, 78, 65]
  case true =>
    go_wp2_with fail
    go_ret3
    exact ⟨by simp [countR, lazyR, isIn, b0, b1, b2], Below.refl _ _⟩
  cases b3 : s.toList == [67, 72, 79, 79, 83, 69]
  case true =>
    go_wp2_with fail
    go_ret3
    exact ⟨by simp [countR, lazyR, isIn, b0, b1, b2, b3], Below.refl _ _⟩
  cases b4 : s.toList == [83, 87, 73, 84, 67, 72]
  case true =>
    go_wp2_with fail
    go_ret3
    exact ⟨by simp [countR, lazyR, isIn, b0, b1, b2, b3, b4], Below.refl _ _⟩
  cases b5 : s.toList == [76, 69, 84]
  case true =>
    go_wp2_with fail
    go_ret3
    exact ⟨by simp [countR, lazyR, isIn, b0, b1, b2, b3, b4, b5], Below.refl _ _⟩
  have hz : lazyR s.toList = (0, 0, false) := by simp [lazyR, isIn, b0, b1, b2, b3, b4, b5]
  go_wp2_with fail
  clear b0 b1 b2 b3 b4 b5
  refine Calls.mono (refNames29 w) ?_
  rintro _ w1 ⟨v1, rfl, S1, q1⟩
  have S1 := Lib.hid S1
  have Q1 := Lib.hid q1; clear q1
  go_wp2_with fail
  refine Calls.mono (in28 v1 _ s w1 S1.out) ?_
  rintro _ w2 ⟨rfl, rfl⟩
  cases h1 : isIn s.toList namesMath
  case true =>
    go_wp2_with fail
    refine Calls.mono (takes11_c s _) ?_
    rintro _ w7 ⟨rfl, rfl⟩
    go_wp2_with fail
    go_ret3
    have hc : countR s.toList = ((takes11 s.toList).1, (takes11 s.toList).2, true) := by simp [countR, hz, h1]
    rw [hc]
    exact ⟨rfl, Q1.out⟩
  go_wp2_with fail
  refine Calls.mono (refNames31 w2) ?_
  rintro _ w3 ⟨v2, rfl, S2, q2⟩
  have S2 := Lib.hid S2
  have Q2 := Lib.hid (Q1.out.trans (q2.mono Q1.out.size)); clear q2
  go_wp2_with fail
  refine Calls.mono (in28 v2 _ s w3 S2.out) ?_
  rintro _ w4 ⟨rfl, rfl⟩
  cases h2 : isIn s.toList namesLogic
  case true =>
    go_wp2_with fail
    refine Calls.mono (count13_c s _) ?_
    rintro _ w7 ⟨rfl, rfl⟩
    go_wp2_with fail
    go_ret3
    have hc : countR s.toList = count13 s.toList := by simp [countR, hz, h1, h2]
    rw [hc]
    exact ⟨rfl, Q2.out⟩
  go_wp2_with fail
  refine Calls.mono (refNames33 w4) ?_
  rintro _ w5 ⟨v3, rfl, S3, q3⟩
  have S3 := Lib.hid S3
  have Q3 := Lib.hid (Q2.out.trans (q3.mono Q2.out.size)); clear q3
  go_wp2_with fail
  refine Calls.mono (in28 v3 _ s w5 S3.out) ?_
  rintro _ w6 ⟨rfl, rfl⟩
  cases h3 : isIn s.toList namesLook
  case true =>
    go_wp2_with fail
    refine Calls.mono (takes14_c s _) ?_
    rintro _ w7 ⟨rfl, rfl⟩
    go_wp2_with fail
    go_ret3
    have hc : countR s.toList = ((takes14 s.toList).1, (takes14 s.toList).2, true) := by simp [countR, hz, h1, h2, h3]
    rw [hc]
    exact ⟨rfl, Q3.out⟩
  have hc : countR s.toList = restR s.toList := by simp [countR, hz, h1, h2, h3]
  clear hz h1 h2 S1 S2 S3
  have HC := Lib.hid hc; clear hc
  cases b0 : s.toList == [76, 69, 78]
  case true =>
    go_wp2_with fail
    go_ret3
    have hc : countR s.toList = (1, 1, true) := HC.out.trans (by simp [restR, isIn, b0])
    rw [hc]
    exact ⟨rfl, Q3.out⟩
  cases b1 : s.toList == [85, 80, 80, 69, 82]
  case true =>
    go_wp2_with fail
    go_ret3
    have hc : countR s.toList = (1, 1, true) := HC.out.trans (by simp [restR, isIn, b0, b1])
    rw [hc]
    exact ⟨rfl, Q3.out⟩
  cases b2 : s.toList == [76, 79, 87, 69, 82]
  case true =>
    go_wp2_with fail
    go_ret3
    have hc : countR s.toList = (1, 1, true) := HC.out.trans (by simp [restR, isIn, b0, b1, b2])
    rw [hc]
    exact ⟨rfl, Q3.out⟩
  cases b3 : s.toList == [84, 82, 73, 77]
  case true =>
    go_wp2_with fail
    go_ret3
    have hc : countR s.toList = (1, 1, true) := HC.out.trans (by simp [restR, isIn, b0, b1, b2, b3])
    rw [hc]
    exact ⟨rfl, Q3.out⟩
  cases b4 : s.toList == [86, 65, 76, 85, 69]
  case true =>
    go_wp2_with fail
    go_ret3
    have hc : countR s.toList = (1, 1, true) := HC.out.trans (by simp [restR, isIn, b0, b1, b2, b3, b4])
    rw [hc]
    exact ⟨rfl, Q3.out⟩
  cases b5 : s.toList == [67, 79, 76, 85, 77, 78, 83]
  case true =>
    go_wp2_with fail
    go_ret3
    have hc : countR s.toList = (1, 1, true) := HC.out.trans (by simp [restR, isIn, b0, b1, b2, b3, b4, b5])
    rw [hc]
    exact ⟨rfl, Q3.out⟩
  cases b6 : s.toList == [82, 79, 87, 83]
  case true =>
    go_wp2_with fail
    go_ret3
    have hc : countR s.toList = (1, 1, true) := HC.out.trans (by simp [restR, isIn, b0, b1, b2, b3, b4, b5, b6])
    rw [hc]
    exact ⟨rfl, Q3.out⟩
  cases b7 : s.toList == [84, 79, 67, 79, 76]
  case true =>
    go_wp2_with fail
    go_ret3
    have hc : countR s.toList = (1, 1, true) := HC.out.trans (by simp [restR, isIn, b0, b1, b2, b3, b4, b5, b6, b7])
    rw [hc]
    exact ⟨rfl, Q3.out⟩
  cases b8 : s.toList == [84, 79, 82, 79, 87]
  case true =>
    go_wp2_with fail
    go_ret3
    have hc : countR s.toList = (1, 1, true) := HC.out.trans (by simp [restR, isIn, b0, b1, b2, b3, b4, b5, b6, b7, b8])
    rw [hc]
    exact ⟨rfl, Q3.out⟩
  cases b9 : s.toList == [84, 82, 65, 78, 83, 80, 79, 83, 69]
  case true =>
    go_wp2_with fail
    go_ret3
    have hc : countR s.toList = (1, 1, true) := HC.out.trans (by simp [restR, isIn, b0, b1, b2, b3, b4, b5, b6, b7, b8, b9])
    rw [hc]
    exact ⟨rfl, Q3.out⟩
  cases b10 : s.toList == [85, 78, 73, 81, 85, 69]
  case true =>
    go_wp2_with fail
    go_ret3
    have hc : countR s.toList = (1, 1, true) := HC.out.trans (by simp [restR, isIn, b0, b1, b2, b3, b4, b5, b6, b7, b8, b9, b10])
    rw [hc]
    exact ⟨rfl, Q3.out⟩
  cases b11 : s.toList == [76, 69, 70, 84]
  case true =>
    go_wp2_with fail
    go_ret3
    have hc : countR s.toList = (1, 2, true) := HC.out.trans (by simp [restR, isIn, b0, b1, b2, b3, b4, b5, b6, b7, b8, b9, b10, b11])
    rw [hc]
    exact ⟨rfl, Q3.out⟩
  cases b12 : s.toList == [82, 73, 71, 72, 84]
  case true =>
    go_wp2_with fail
    go_ret3
    have hc : countR s.toList = (1, 2, true) := HC.out.trans (by simp [restR, isIn, b0, b1, b2, b3, b4, b5, b6, b7, b8, b9, b10, b11, b12])
    rw [hc]
    exact ⟨rfl, Q3.out⟩
  cases b13 : s.toList == [77, 73, 68]
  case true =>
    go_wp2_with fail
    go_ret3
    have hc : countR s.toList = (3, 3, true) := HC.out.trans (by simp [restR, isIn, b0, b1, b2, b3, b4, b5, b6, b7, b8, b9, b10, b11, b12, b13])
    rw [hc]
    exact ⟨rfl, Q3.out⟩
  cases b14 : s.toList == [70, 73, 78, 68]
  case true =>
    go_wp2_with fail
    go_ret3
    have hc : countR s.toList = (2, 3, true) := HC.out.trans (by simp [restR, isIn, b0, b1, b2, b3, b4, b5, b6, b7, b8, b9, b10, b11, b12, b13, b14])
    rw [hc]
    exact ⟨rfl, Q3.out⟩
  cases b15 : s.toList == [70, 73, 76, 84, 69, 82]
  case true =>
    go_wp2_with fail
    go_ret3
    have hc : countR s.toList = (2, 3, true) := HC.out.trans (by simp [restR, isIn, b0, b1, b2, b3, b4, b5, b6, b7, b8, b9, b10, b11, b12, b13, b14, b15])
    rw [hc]
    exact ⟨rfl, Q3.out⟩
  cases b16 : s.toList == [83, 85, 66, 83, 84, 73, 84, 85, 84, 69]
  case true =>
    go_wp2_with fail
    go_ret3
    have hc : countR s.toList = (3, 4, true) := HC.out.trans (by simp [restR, isIn, b0, b1, b2, b3, b4, b5, b6, b7, b8, b9, b10, b11, b12, b13, b14, b15, b16])
    rw [hc]
    exact ⟨rfl, Q3.out⟩
  cases b17 : s.toList == [82, 69, 80, 84]
  case true =>
    go_wp2_with fail
    go_ret3
    have hc : countR s.toList = (2, 2, true) := HC.out.trans (by simp [restR, isIn, b0, b1, b2, b3, b4, b5, b6, b7, b8, b9, b10, b11, b12, b13, b14, b15, b16, b17])
    rw [hc]
    exact ⟨rfl, Q3.out⟩
  cases b18 : s.toList == [69, 88, 65, 67, 84]
  case true =>
    go_wp2_with fail
    go_ret3
    have hc : countR s.toList = (2, 2, true) := HC.out.trans (by simp [restR, isIn, b0, b1, b2, b3, b4, b5, b6, b7, b8, b9, b10, b11, b12, b13, b14, b15, b16, b17, b18])
    rw [hc]
    exact ⟨rfl, Q3.out⟩
  cases b19 : s.toList == [84, 69, 88, 84, 83, 80, 76, 73, 84]
  case true =>
    go_wp2_with fail
    go_ret3
    have hc : countR s.toList = (2, 2, true) := HC.out.trans (by simp [restR, isIn, b0, b1, b2, b3, b4, b5, b6, b7, b8, b9, b10, b11, b12, b13, b14, b15, b16, b17, b18, b19])
    rw [hc]
    exact ⟨rfl, Q3.out⟩
  cases b20 : s.toList == [77, 77, 85, 76, 84]
  case true =>
    go_wp2_with fail
    go_ret3
    have hc : countR s.toList = (2, 2, true) := HC.out.trans (by simp [restR, isIn, b0, b1, b2, b3, b4, b5, b6, b7, b8, b9, b10, b11, b12, b13, b14, b15, b16, b17, b18, b19, b20])
    rw [hc]
    exact ⟨rfl, Q3.out⟩
  cases b21 : s.toList == [67, 79, 78, 67, 65, 84]
  case true =>
    go_wp2_with fail
    go_ret3
    have hc : countR s.toList = (1, 32, true) := HC.out.trans (by simp [restR, isIn, b0, b1, b2, b3, b4, b5, b6, b7, b8, b9, b10, b11, b12, b13, b14, b15, b16, b17, b18, b19, b20, b21])
    rw [hc]
    exact ⟨rfl, Q3.out⟩
  cases b22 : s.toList == [72, 83, 84, 65, 67, 75]
  case true =>
    go_wp2_with fail
    go_ret3
    have hc : countR s.toList = (1, 32, true) := HC.out.trans (by simp [restR, isIn, b0, b1, b2, b3, b4, b5, b6, b7, b8, b9, b10, b11, b12, b13, b14, b15, b16, b17, b18, b19, b20, b21, b22])
    rw [hc]
    exact ⟨rfl, Q3.out⟩
  cases b23 : s.toList == [86, 83, 84, 65, 67, 75]
  case true =>
    go_wp2_with fail
    go_ret3
    have hc : countR s.toList = (1, 32, true) := HC.out.trans (by simp [restR, isIn, b0, b1, b2, b3, b4, b5, b6, b7, b8, b9, b10, b11, b12, b13, b14, b15, b16, b17, b18, b19, b20, b21, b22, b23])
    rw [hc]
    exact ⟨rfl, Q3.out⟩
  cases b24 : s.toList == [84, 69, 88, 84, 74, 79, 73, 78]
  case true =>
    go_wp2_with fail
    go_ret3
    have hc : countR s.toList = (3, 32, true) := HC.out.trans (by simp [restR, isIn, b0, b1, b2, b3, b4, b5, b6, b7, b8, b9, b10, b11, b12, b13, b14, b15, b16, b17, b18, b19, b20, b21, b22, b23, b24])
    rw [hc]
    exact ⟨rfl, Q3.out⟩
  cases b25 : s.toList == [68, 82, 79, 80]
  case true =>
    go_wp2_with fail
    go_ret3
    have hc : countR s.toList = (1, 3, true) := HC.out.trans (by simp [restR, isIn, b0, b1, b2, b3, b4, b5, b6, b7, b8, b9, b10, b11, b12, b13, b14, b15, b16, b17, b18, b19, b20, b21, b22, b23, b24, b25])
    rw [hc]
    exact ⟨rfl, Q3.out⟩
  cases b26 : s.toList == [83, 79, 82, 84]
  case true =>
    go_wp2_with fail
    go_ret3
    have hc : countR s.toList = (1, 3, true) := HC.out.trans (by simp [restR, isIn, b0, b1, b2, b3, b4, b5, b6, b7, b8, b9, b10, b11, b12, b13, b14, b15, b16, b17, b18, b19, b20, b21, b22, b23, b24, b25, b26])
    rw [hc]
    exact ⟨rfl, Q3.out⟩
  cases b27 : s.toList == [84, 65, 75, 69]
  case true =>
    go_wp2_with fail
    go_ret3
    have hc : countR s.toList = (1, 3, true) := HC.out.trans (by simp [restR, isIn, b0, b1, b2, b3, b4, b5, b6, b7, b8, b9, b10, b11, b12, b13, b14, b15, b16, b17, b18, b19, b20, b21, b22, b23, b24, b25, b26, b27])
    rw [hc]
    exact ⟨rfl, Q3.out⟩
  cases b28 : s.toList == [83, 69, 81, 85, 69, 78, 67, 69]
  case true =>
    go_wp2_with fail
    go_ret3
    have hc : countR s.toList = (1, 4, true) := HC.out.trans (by simp [restR, isIn, b0, b1, b2, b3, b4, b5, b6, b7, b8, b9, b10, b11, b12, b13, b14, b15, b16, b17, b18, b19, b20, b21, b22, b23, b24, b25, b26, b27, b28])
    rw [hc]
    exact ⟨rfl, Q3.out⟩
  go_wp2_with fail
  go_ret3
  have hc : countR s.toList = (0, 0, false) := HC.out.trans (by simp [restR, isIn, b0, b1, b2, b3, b4, b5, b6, b7, b8, b9, b10, b11, b12, b13, b14, b15, b16, b17, b18, b19, b20, b21, b22, b23, b24, b25, b26, b27, b28])
  rw [hc]
  exact ⟨rfl, Q3.out⟩
end Go.Proofs.YtdmbppgogdkpdaaGreatDoor
