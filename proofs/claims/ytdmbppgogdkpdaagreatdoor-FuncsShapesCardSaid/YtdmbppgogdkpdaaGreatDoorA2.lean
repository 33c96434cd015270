/-
  The numbers of arguments, as the switches tell them: their contracts. No condition.
-/
import Derived.Test.YtdmbppgogdkpdaaGreatDoorA0
import Derived.Test.YtdmbppgogdkpdaaGreatDoorA1
namespace Go.Proofs.YtdmbppgogdkpdaaGreatDoor
open Go.RowKit

set_option maxRecDepth 100000 in
set_option maxHeartbeats 2000000 in
theorem ofLazy_c (s : ByteArray) (w : World) : Calls Tryz.prog 25 #[.string s] w fun e w' => e = .returned (.tuple #[.int .i64 (lazyT s.toList).1, .int .i64 (lazyT s.toList).2]) ∧ w' = w := by
  go_enter Tryz.func25, Tryz.ntmps25
  go_wp2_with fail
  all_goals
    go_ret2
    refine ⟨?_, rfl⟩
    (first | (simp [lazyT, isIn, *]; done) | (exfalso; simp_all; done) | (simp_all [lazyT, isIn]; done))
set_option maxRecDepth 100000 in
set_option maxHeartbeats 2000000 in
theorem ofMath_c (s : ByteArray) (w : World) : Calls Tryz.prog 44 #[.string s] w fun e w' => e = .returned (.tuple #[.int .i64 (mathT s.toList).1, .int .i64 (mathT s.toList).2]) ∧ w' = w := by
  go_enter Tryz.func44, Tryz.ntmps44
  go_wp2_with fail
  all_goals
    go_ret2
    refine ⟨?_, rfl⟩
    (first | (simp [mathT, isIn, *]; done) | (exfalso; simp_all; done) | (simp_all [mathT, isIn]; done))
set_option maxRecDepth 100000 in
set_option maxHeartbeats 2000000 in
theorem ofText_c (s : ByteArray) (w : World) : Calls Tryz.prog 47 #[.string s] w fun e w' => e = .returned (.tuple #[.int .i64 (textT s.toList).1, .int .i64 (textT s.toList).2]) ∧ w' = w := by
  go_enter Tryz.func47, Tryz.ntmps47
  go_wp2_with fail
  all_goals
    go_ret2
    refine ⟨?_, rfl⟩
    (first | (simp [textT, isIn, *]; done) | (exfalso; simp_all; done) | (simp_all [textT, isIn]; done))
set_option maxRecDepth 100000 in
set_option maxHeartbeats 2000000 in
theorem ofLogic_c (s : ByteArray) (w : World) : Calls Tryz.prog 50 #[.string s] w fun e w' => e = .returned (.tuple #[.int .i64 (logicT s.toList).1, .int .i64 (logicT s.toList).2]) ∧ w' = w := by
  go_enter Tryz.func50, Tryz.ntmps50
  go_wp2_with fail
  all_goals
    go_ret2
    refine ⟨?_, rfl⟩
    (first | (simp [logicT, isIn, *]; done) | (exfalso; simp_all; done) | (simp_all [logicT, isIn]; done))
set_option maxRecDepth 100000 in
set_option maxHeartbeats 2000000 in
theorem ofLook_c (s : ByteArray) (w : World) : Calls Tryz.prog 53 #[.string s] w fun e w' => e = .returned (.tuple #[.int .i64 (lookT s.toList).1, .int .i64 (lookT s.toList).2]) ∧ w' = w := by
  go_enter Tryz.func53, Tryz.ntmps53
  go_wp2_with fail
  all_goals
    go_ret2
    refine ⟨?_, rfl⟩
    (first | (simp [lookT, isIn, *]; done) | (exfalso; simp_all; done) | (simp_all [lookT, isIn]; done))
set_option maxRecDepth 100000 in
set_option maxHeartbeats 2000000 in
theorem ofArray_c (s : ByteArray) (w : World) : Calls Tryz.prog 56 #[.string s] w fun e w' => e = .returned (.tuple #[.int .i64 (arrayT s.toList).1, .int .i64 (arrayT s.toList).2]) ∧ w' = w := by
  go_enter Tryz.func56, Tryz.ntmps56
  go_wp2_with fail
  all_goals
    go_ret2
    refine ⟨?_, rfl⟩
    (first | (simp [arrayT, isIn, *]; done) | (exfalso; simp_all; done) | (simp_all [arrayT, isIn]; done))
set_option maxRecDepth 100000 in
set_option maxHeartbeats 2000000 in
theorem takes11_c (s : ByteArray) (w : World) : Calls Tryz.prog 30 #[.string s] w fun e w' => e = .returned (.tuple #[.int .i64 (takes11 s.toList).1, .int .i64 (takes11 s.toList).2]) ∧ w' = w := by
  go_enter Tryz.func30, Tryz.ntmps30
  go_wp2_with fail
  all_goals
    go_ret2
    refine ⟨?_, rfl⟩
    (first | (simp [takes11, isIn, *]; done) | (exfalso; simp_all; done) | (simp_all [takes11, isIn]; done))
set_option maxRecDepth 100000 in
set_option maxHeartbeats 2000000 in
theorem takes14_c (s : ByteArray) (w : World) : Calls Tryz.prog 34 #[.string s] w fun e w' => e = .returned (.tuple #[.int .i64 (takes14 s.toList).1, .int .i64 (takes14 s.toList).2]) ∧ w' = w := by
  go_enter Tryz.func34, Tryz.ntmps34
  go_wp2_with fail
  all_goals
    go_ret2
    refine ⟨?_, rfl⟩
    (first | (simp [takes14, isIn, *]; done) | (exfalso; simp_all; done) | (simp_all [takes14, isIn]; done))
set_option maxRecDepth 100000 in
set_option maxHeartbeats 2000000 in
theorem count13_c (s : ByteArray) (w : World) : Calls Tryz.prog 32 #[.string s] w fun e w' => e = .returned (.tuple #[.int .i64 (count13 s.toList).1, .int .i64 (count13 s.toList).2.1, .bool (count13 s.toList).2.2]) ∧ w' = w := by
  go_enter Tryz.func32, Tryz.ntmps32
  go_wp2_with fail
  all_goals
    go_ret3
    refine ⟨?_, rfl⟩
    (first | (simp [count13, isIn, *]; done) | (exfalso; simp_all; done) | (simp_all [count13, isIn]; done))
end Go.Proofs.YtdmbppgogdkpdaaGreatDoor
