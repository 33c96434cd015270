/-
  The four tables without the logic. No condition.
-/
import Derived.Test.YtdmbppgogdkpdaaGreatDoorB0
namespace Go.Proofs.YtdmbppgogdkpdaaGreatDoor
open Go.RowKit Go.Maps
set_option maxRecDepth 100000 in
set_option maxHeartbeats 4000000 in
theorem table86 (w : World) : Calls Tryz.prog 86 #[] w fun e w' => ∃ b, e = .returned (.map (some b)) ∧ Tab R0 w b 19 (dOf names86) w' := by
  have hmm := @run_makeMap Tryz.prog
  have ht := Lib.hid (Tab.start (R := R0) w)
  go_enter Tryz.func86, Tryz.ntmps86
  go_wp2_with fail
  refine (mk140 _ _ _ _ ).mono ?_
  rintro _ w1 ⟨f1, a1, b1, rfl, q1⟩
  replace ht := Lib.hid (ht.out.next (Lib.hid q1).out)
  clear q1
  go_wp2_with fail
  refine upon_insert ht.out Tryz.underlying88 (by simp [maxLen]) _ _ _ (Go.WideMaps.keyOf_string_mk Tryz.underlying9 (by simp [maxLen, ByteArray.size])) .nil [] rfl fun w' ht' => ?_
  replace ht := Lib.hid ht'; clear ht'
  go_wp2_with fail
  refine (mk140 _ _ _ _ ).mono ?_
  rintro _ w2 ⟨f2, a2, b2, rfl, q2⟩
  replace ht := Lib.hid (ht.out.next (Lib.hid q2).out)
  clear q2
  go_wp2_with fail
  refine upon_insert ht.out Tryz.underlying88 (by simp [maxLen]) _ _ _ (Go.WideMaps.keyOf_string_mk Tryz.underlying9 (by simp [maxLen, ByteArray.size])) .nil [] rfl fun w' ht' => ?_
  replace ht := Lib.hid ht'; clear ht'
  go_wp2_with fail
  refine (mk140 _ _ _ _ ).mono ?_
  rintro _ w3 ⟨f3, a3, b3, rfl, q3⟩
  replace ht := Lib.hid (ht.out.next (Lib.hid q3).out)
  clear q3
  go_wp2_with fail
  refine upon_insert ht.out Tryz.underlying88 (by simp [maxLen]) _ _ _ (Go.WideMaps.keyOf_string_mk Tryz.underlying9 (by simp [maxLen, ByteArray.size])) .nil [] rfl fun w' ht' => ?_
  replace ht := Lib.hid ht'; clear ht'
  go_wp2_with fail
  refine (mk140 _ _ _ _ ).mono ?_
  rintro _ w4 ⟨f4, a4, b4, rfl, q4⟩
  replace ht := Lib.hid (ht.out.next (Lib.hid q4).out)
  clear q4
  go_wp2_with fail
  refine upon_insert ht.out Tryz.underlying88 (by simp [maxLen]) _ _ _ (Go.WideMaps.keyOf_string_mk Tryz.underlying9 (by simp [maxLen, ByteArray.size])) .nil [] rfl fun w' ht' => ?_
  replace ht := Lib.hid ht'; clear ht'
  go_wp2_with fail
  refine (mk146 _ _ _ _ ).mono ?_
  rintro _ w5 ⟨f5, a5, b5, rfl, q5⟩
  replace ht := Lib.hid (ht.out.next (Lib.hid q5).out)
  clear q5
  go_wp2_with fail
  refine upon_insert ht.out Tryz.underlying88 (by simp [maxLen]) _ _ _ (Go.WideMaps.keyOf_string_mk Tryz.underlying9 (by simp [maxLen, ByteArray.size])) .nil [] rfl fun w' ht' => ?_
  replace ht := Lib.hid ht'; clear ht'
  go_wp2_with fail
  refine (mk146 _ _ _ _ ).mono ?_
  rintro _ w6 ⟨f6, a6, b6, rfl, q6⟩
  replace ht := Lib.hid (ht.out.next (Lib.hid q6).out)
  clear q6
  go_wp2_with fail
  refine upon_insert ht.out Tryz.underlying88 (by simp [maxLen]) _ _ _ (Go.WideMaps.keyOf_string_mk Tryz.underlying9 (by simp [maxLen, ByteArray.size])) .nil [] rfl fun w' ht' => ?_
  replace ht := Lib.hid ht'; clear ht'
  go_wp2_with fail
  refine (mk140 _ _ _ _ ).mono ?_
  rintro _ w7 ⟨f7, a7, b7, rfl, q7⟩
  replace ht := Lib.hid (ht.out.next (Lib.hid q7).out)
  clear q7
  go_wp2_with fail
  refine upon_insert ht.out Tryz.underlying88 (by simp [maxLen]) _ _ _ (Go.WideMaps.keyOf_string_mk Tryz.underlying9 (by simp [maxLen, ByteArray.size])) .nil [] rfl fun w' ht' => ?_
  replace ht := Lib.hid ht'; clear ht'
  go_wp2_with fail
  refine (mk140 _ _ _ _ ).mono ?_
  rintro _ w8 ⟨f8, a8, b8, rfl, q8⟩
  replace ht := Lib.hid (ht.out.next (Lib.hid q8).out)
  clear q8
  go_wp2_with fail
  refine upon_insert ht.out Tryz.underlying88 (by simp [maxLen]) _ _ _ (Go.WideMaps.keyOf_string_mk Tryz.underlying9 (by simp [maxLen, ByteArray.size])) .nil [] rfl fun w' ht' => ?_
  replace ht := Lib.hid ht'; clear ht'
  go_wp2_with fail
  refine upon_insert ht.out Tryz.underlying88 (by simp [maxLen]) _ _ _ (Go.WideMaps.keyOf_string_mk Tryz.underlying9 (by simp [maxLen, ByteArray.size])) .nil [] rfl fun w' ht' => ?_
  replace ht := Lib.hid ht'; clear ht'
  go_wp2_with fail
  refine (mk152 _ _ _ _ ).mono ?_
  rintro _ w9 ⟨f9, a9, b9, rfl, q9⟩
  replace ht := Lib.hid (ht.out.next (Lib.hid q9).out)
  clear q9
  go_wp2_with fail
  refine upon_insert ht.out Tryz.underlying88 (by simp [maxLen]) _ _ _ (Go.WideMaps.keyOf_string_mk Tryz.underlying9 (by simp [maxLen, ByteArray.size])) .nil [] rfl fun w' ht' => ?_
  replace ht := Lib.hid ht'; clear ht'
  go_wp2_with fail
  refine (mk152 _ _ _ _ ).mono ?_
  rintro _ w10 ⟨f10, a10, b10, rfl, q10⟩
  replace ht := Lib.hid (ht.out.next (Lib.hid q10).out)
  clear q10
  go_wp2_with fail
  refine upon_insert ht.out Tryz.underlying88 (by simp [maxLen]) _ _ _ (Go.WideMaps.keyOf_string_mk Tryz.underlying9 (by simp [maxLen, ByteArray.size])) .nil [] rfl fun w' ht' => ?_
  replace ht := Lib.hid ht'; clear ht'
  go_wp2_with fail
  refine upon_insert ht.out Tryz.underlying88 (by simp [maxLen]) _ _ _ (Go.WideMaps.keyOf_string_mk Tryz.underlying9 (by simp [maxLen, ByteArray.size])) .nil [] rfl fun w' ht' => ?_
  replace ht := Lib.hid ht'; clear ht'
  go_wp2_with fail
  refine upon_insert ht.out Tryz.underlying88 (by simp [maxLen]) _ _ _ (Go.WideMaps.keyOf_string_mk Tryz.underlying9 (by simp [maxLen, ByteArray.size])) .nil [] rfl fun w' ht' => ?_
  replace ht := Lib.hid ht'; clear ht'
  go_wp2_with fail
  refine (mk158 _ _ _ _ ).mono ?_
  rintro _ w11 ⟨f11, a11, b11, rfl, q11⟩
  replace ht := Lib.hid (ht.out.next (Lib.hid q11).out)
  clear q11
  go_wp2_with fail
  refine upon_insert ht.out Tryz.underlying88 (by simp [maxLen]) _ _ _ (Go.WideMaps.keyOf_string_mk Tryz.underlying9 (by simp [maxLen, ByteArray.size])) .nil [] rfl fun w' ht' => ?_
  replace ht := Lib.hid ht'; clear ht'
  go_wp2_with fail
  refine (mk158 _ _ _ _ ).mono ?_
  rintro _ w12 ⟨f12, a12, b12, rfl, q12⟩
  replace ht := Lib.hid (ht.out.next (Lib.hid q12).out)
  clear q12
  go_wp2_with fail
  refine upon_insert ht.out Tryz.underlying88 (by simp [maxLen]) _ _ _ (Go.WideMaps.keyOf_string_mk Tryz.underlying9 (by simp [maxLen, ByteArray.size])) .nil [] rfl fun w' ht' => ?_
  replace ht := Lib.hid ht'; clear ht'
  go_wp2_with fail
  refine (mk158 _ _ _ _ ).mono ?_
  rintro _ w13 ⟨f13, a13, b13, rfl, q13⟩
  replace ht := Lib.hid (ht.out.next (Lib.hid q13).out)
  clear q13
  go_wp2_with fail
  refine upon_insert ht.out Tryz.underlying88 (by simp [maxLen]) _ _ _ (Go.WideMaps.keyOf_string_mk Tryz.underlying9 (by simp [maxLen, ByteArray.size])) .nil [] rfl fun w' ht' => ?_
  replace ht := Lib.hid ht'; clear ht'
  go_wp2_with fail
  refine (mk161 _ _ _ _ ).mono ?_
  rintro _ w14 ⟨f14, a14, b14, rfl, q14⟩
  replace ht := Lib.hid (ht.out.next (Lib.hid q14).out)
  clear q14
  go_wp2_with fail
  refine upon_insert ht.out Tryz.underlying88 (by simp [maxLen]) _ _ _ (Go.WideMaps.keyOf_string_mk Tryz.underlying9 (by simp [maxLen, ByteArray.size])) .nil [] rfl fun w' ht' => ?_
  replace ht := Lib.hid ht'; clear ht'
  go_wp2_with fail
  refine (mk161 _ _ _ _ ).mono ?_
  rintro _ w15 ⟨f15, a15, b15, rfl, q15⟩
  replace ht := Lib.hid (ht.out.next (Lib.hid q15).out)
  clear q15
  go_wp2_with fail
  refine upon_insert ht.out Tryz.underlying88 (by simp [maxLen]) _ _ _ (Go.WideMaps.keyOf_string_mk Tryz.underlying9 (by simp [maxLen, ByteArray.size])) .nil [] rfl fun w' ht' => ?_
  replace ht := Lib.hid ht'; clear ht'
  go_wp2_with fail
  refine upon_insert ht.out Tryz.underlying88 (by simp [maxLen]) _ _ _ (Go.WideMaps.keyOf_string_mk Tryz.underlying9 (by simp [maxLen, ByteArray.size])) .nil [] rfl fun w' ht' => ?_
  replace ht := Lib.hid ht'; clear ht'
  go_wp2_with fail
  go_ret
  exact ⟨_, rfl, ht.out⟩
set_option maxRecDepth 100000 in
set_option maxHeartbeats 4000000 in
theorem table90 (w : World) : Calls Tryz.prog 90 #[] w fun e w' => ∃ b, e = .returned (.map (some b)) ∧ Tab R0 w b 15 (dOf names90) w' := by
  have hmm := @run_makeMap Tryz.prog
  have ht := Lib.hid (Tab.start (R := R0) w)
  go_enter Tryz.func90, Tryz.ntmps90
  go_wp2_with fail
  refine (mk167 _ _ _ _ _ _ _ ).mono ?_
  rintro _ w1 ⟨f1, a1, b1, rfl, q1⟩
  replace ht := Lib.hid (ht.out.nextA (Lib.hid q1).out)
  clear q1
  go_wp2_with fail
  refine upon_insert ht.out Tryz.underlying96 (by simp [maxLen]) _ _ _ (Go.WideMaps.keyOf_string_mk Tryz.underlying9 (by simp [maxLen, ByteArray.size])) .nil [] rfl fun w' ht' => ?_
  replace ht := Lib.hid ht'; clear ht'
  go_wp2_with fail
  refine (mk167 _ _ _ _ _ _ _ ).mono ?_
  rintro _ w2 ⟨f2, a2, b2, rfl, q2⟩
  replace ht := Lib.hid (ht.out.nextA (Lib.hid q2).out)
  clear q2
  go_wp2_with fail
  refine upon_insert ht.out Tryz.underlying96 (by simp [maxLen]) _ _ _ (Go.WideMaps.keyOf_string_mk Tryz.underlying9 (by simp [maxLen, ByteArray.size])) .nil [] rfl fun w' ht' => ?_
  replace ht := Lib.hid ht'; clear ht'
  go_wp2_with fail
  refine (mk167 _ _ _ _ _ _ _ ).mono ?_
  rintro _ w3 ⟨f3, a3, b3, rfl, q3⟩
  replace ht := Lib.hid (ht.out.nextA (Lib.hid q3).out)
  clear q3
  go_wp2_with fail
  refine upon_insert ht.out Tryz.underlying96 (by simp [maxLen]) _ _ _ (Go.WideMaps.keyOf_string_mk Tryz.underlying9 (by simp [maxLen, ByteArray.size])) .nil [] rfl fun w' ht' => ?_
  replace ht := Lib.hid ht'; clear ht'
  go_wp2_with fail
  refine (mk167 _ _ _ _ _ _ _ ).mono ?_
  rintro _ w4 ⟨f4, a4, b4, rfl, q4⟩
  replace ht := Lib.hid (ht.out.nextA (Lib.hid q4).out)
  clear q4
  go_wp2_with fail
  refine upon_insert ht.out Tryz.underlying96 (by simp [maxLen]) _ _ _ (Go.WideMaps.keyOf_string_mk Tryz.underlying9 (by simp [maxLen, ByteArray.size])) .nil [] rfl fun w' ht' => ?_
  replace ht := Lib.hid ht'; clear ht'
  go_wp2_with fail
  refine (mk167 _ _ _ _ _ _ _ ).mono ?_
  rintro _ w5 ⟨f5, a5, b5, rfl, q5⟩
  replace ht := Lib.hid (ht.out.nextA (Lib.hid q5).out)
  clear q5
  go_wp2_with fail
  refine upon_insert ht.out Tryz.underlying96 (by simp [maxLen]) _ _ _ (Go.WideMaps.keyOf_string_mk Tryz.underlying9 (by simp [maxLen, ByteArray.size])) .nil [] rfl fun w' ht' => ?_
  replace ht := Lib.hid ht'; clear ht'
  go_wp2_with fail
  refine (mk167 _ _ _ _ _ _ _ ).mono ?_
  rintro _ w6 ⟨f6, a6, b6, rfl, q6⟩
  replace ht := Lib.hid (ht.out.nextA (Lib.hid q6).out)
  clear q6
  go_wp2_with fail
  refine upon_insert ht.out Tryz.underlying96 (by simp [maxLen]) _ _ _ (Go.WideMaps.keyOf_string_mk Tryz.underlying9 (by simp [maxLen, ByteArray.size])) .nil [] rfl fun w' ht' => ?_
  replace ht := Lib.hid ht'; clear ht'
  go_wp2_with fail
  refine (mk167 _ _ _ _ _ _ _ ).mono ?_
  rintro _ w7 ⟨f7, a7, b7, rfl, q7⟩
  replace ht := Lib.hid (ht.out.nextA (Lib.hid q7).out)
  clear q7
  go_wp2_with fail
  refine upon_insert ht.out Tryz.underlying96 (by simp [maxLen]) _ _ _ (Go.WideMaps.keyOf_string_mk Tryz.underlying9 (by simp [maxLen, ByteArray.size])) .nil [] rfl fun w' ht' => ?_
  replace ht := Lib.hid ht'; clear ht'
  go_wp2_with fail
  refine (mk167 _ _ _ _ _ _ _ ).mono ?_
  rintro _ w8 ⟨f8, a8, b8, rfl, q8⟩
  replace ht := Lib.hid (ht.out.nextA (Lib.hid q8).out)
  clear q8
  go_wp2_with fail
  refine upon_insert ht.out Tryz.underlying96 (by simp [maxLen]) _ _ _ (Go.WideMaps.keyOf_string_mk Tryz.underlying9 (by simp [maxLen, ByteArray.size])) .nil [] rfl fun w' ht' => ?_
  replace ht := Lib.hid ht'; clear ht'
  go_wp2_with fail
  refine (mk167 _ _ _ _ _ _ _ ).mono ?_
  rintro _ w9 ⟨f9, a9, b9, rfl, q9⟩
  replace ht := Lib.hid (ht.out.nextA (Lib.hid q9).out)
  clear q9
  go_wp2_with fail
  refine upon_insert ht.out Tryz.underlying96 (by simp [maxLen]) _ _ _ (Go.WideMaps.keyOf_string_mk Tryz.underlying9 (by simp [maxLen, ByteArray.size])) .nil [] rfl fun w' ht' => ?_
  replace ht := Lib.hid ht'; clear ht'
  go_wp2_with fail
  refine (mk167 _ _ _ _ _ _ _ ).mono ?_
  rintro _ w10 ⟨f10, a10, b10, rfl, q10⟩
  replace ht := Lib.hid (ht.out.nextA (Lib.hid q10).out)
  clear q10
  go_wp2_with fail
  refine upon_insert ht.out Tryz.underlying96 (by simp [maxLen]) _ _ _ (Go.WideMaps.keyOf_string_mk Tryz.underlying9 (by simp [maxLen, ByteArray.size])) .nil [] rfl fun w' ht' => ?_
  replace ht := Lib.hid ht'; clear ht'
  go_wp2_with fail
  refine (mk167 _ _ _ _ _ _ _ ).mono ?_
  rintro _ w11 ⟨f11, a11, b11, rfl, q11⟩
  replace ht := Lib.hid (ht.out.nextA (Lib.hid q11).out)
  clear q11
  go_wp2_with fail
  refine upon_insert ht.out Tryz.underlying96 (by simp [maxLen]) _ _ _ (Go.WideMaps.keyOf_string_mk Tryz.underlying9 (by simp [maxLen, ByteArray.size])) .nil [] rfl fun w' ht' => ?_
  replace ht := Lib.hid ht'; clear ht'
  go_wp2_with fail
  refine (mk167 _ _ _ _ _ _ _ ).mono ?_
  rintro _ w12 ⟨f12, a12, b12, rfl, q12⟩
  replace ht := Lib.hid (ht.out.nextA (Lib.hid q12).out)
  clear q12
  go_wp2_with fail
  refine upon_insert ht.out Tryz.underlying96 (by simp [maxLen]) _ _ _ (Go.WideMaps.keyOf_string_mk Tryz.underlying9 (by simp [maxLen, ByteArray.size])) .nil [] rfl fun w' ht' => ?_
  replace ht := Lib.hid ht'; clear ht'
  go_wp2_with fail
  refine upon_insert ht.out Tryz.underlying96 (by simp [maxLen]) _ _ _ (Go.WideMaps.keyOf_string_mk Tryz.underlying9 (by simp [maxLen, ByteArray.size])) .nil [] rfl fun w' ht' => ?_
  replace ht := Lib.hid ht'; clear ht'
  go_wp2_with fail
  refine upon_insert ht.out Tryz.underlying96 (by simp [maxLen]) _ _ _ (Go.WideMaps.keyOf_string_mk Tryz.underlying9 (by simp [maxLen, ByteArray.size])) .nil [] rfl fun w' ht' => ?_
  replace ht := Lib.hid ht'; clear ht'
  go_wp2_with fail
  refine upon_insert ht.out Tryz.underlying96 (by simp [maxLen]) _ _ _ (Go.WideMaps.keyOf_string_mk Tryz.underlying9 (by simp [maxLen, ByteArray.size])) .nil [] rfl fun w' ht' => ?_
  replace ht := Lib.hid ht'; clear ht'
  go_wp2_with fail
  go_ret
  exact ⟨_, rfl, ht.out⟩
set_option maxRecDepth 100000 in
set_option maxHeartbeats 4000000 in
theorem table96 (w : World) : Calls Tryz.prog 96 #[] w fun e w' => ∃ b, e = .returned (.map (some b)) ∧ Tab R0 w b 5 (dOf names96) w' := by
  have hmm := @run_makeMap Tryz.prog
  have ht := Lib.hid (Tab.start (R := R0) w)
  go_enter Tryz.func96, Tryz.ntmps96
  go_wp2_with fail
  refine upon_insert ht.out Tryz.underlying108 (by simp [maxLen]) _ _ _ (Go.WideMaps.keyOf_string_mk Tryz.underlying9 (by simp [maxLen, ByteArray.size])) .nil [] rfl fun w' ht' => ?_
  replace ht := Lib.hid ht'; clear ht'
  go_wp2_with fail
  refine upon_insert ht.out Tryz.underlying108 (by simp [maxLen]) _ _ _ (Go.WideMaps.keyOf_string_mk Tryz.underlying9 (by simp [maxLen, ByteArray.size])) .nil [] rfl fun w' ht' => ?_
  replace ht := Lib.hid ht'; clear ht'
  go_wp2_with fail
  refine upon_insert ht.out Tryz.underlying108 (by simp [maxLen]) _ _ _ (Go.WideMaps.keyOf_string_mk Tryz.underlying9 (by simp [maxLen, ByteArray.size])) .nil [] rfl fun w' ht' => ?_
  replace ht := Lib.hid ht'; clear ht'
  go_wp2_with fail
  refine upon_insert ht.out Tryz.underlying108 (by simp [maxLen]) _ _ _ (Go.WideMaps.keyOf_string_mk Tryz.underlying9 (by simp [maxLen, ByteArray.size])) .nil [] rfl fun w' ht' => ?_
  replace ht := Lib.hid ht'; clear ht'
  go_wp2_with fail
  refine upon_insert ht.out Tryz.underlying108 (by simp [maxLen]) _ _ _ (Go.WideMaps.keyOf_string_mk Tryz.underlying9 (by simp [maxLen, ByteArray.size])) .nil [] rfl fun w' ht' => ?_
  replace ht := Lib.hid ht'; clear ht'
  go_wp2_with fail
  go_ret
  exact ⟨_, rfl, ht.out⟩
set_option maxRecDepth 100000 in
set_option maxHeartbeats 4000000 in
theorem table99 (w : World) : Calls Tryz.prog 99 #[] w fun e w' => ∃ b, e = .returned (.map (some b)) ∧ Tab R0 w b 14 (dOf names99) w' := by
  have hmm := @run_makeMap Tryz.prog
  have ht := Lib.hid (Tab.start (R := R0) w)
  go_enter Tryz.func99, Tryz.ntmps99
  go_wp2_with fail
  refine upon_insert ht.out Tryz.underlying114 (by simp [maxLen]) _ _ _ (Go.WideMaps.keyOf_string_mk Tryz.underlying9 (by simp [maxLen, ByteArray.size])) .nil [] rfl fun w' ht' => ?_
  replace ht := Lib.hid ht'; clear ht'
  go_wp2_with fail
  refine upon_insert ht.out Tryz.underlying114 (by simp [maxLen]) _ _ _ (Go.WideMaps.keyOf_string_mk Tryz.underlying9 (by simp [maxLen, ByteArray.size])) .nil [] rfl fun w' ht' => ?_
  replace ht := Lib.hid ht'; clear ht'
  go_wp2_with fail
  refine upon_insert ht.out Tryz.underlying114 (by simp [maxLen]) _ _ _ (Go.WideMaps.keyOf_string_mk Tryz.underlying9 (by simp [maxLen, ByteArray.size])) .nil [] rfl fun w' ht' => ?_
  replace ht := Lib.hid ht'; clear ht'
  go_wp2_with fail
  refine (mk206 _ _ _ _ ).mono ?_
  rintro _ w1 ⟨f1, a1, b1, rfl, q1⟩
  replace ht := Lib.hid (ht.out.next (Lib.hid q1).out)
  clear q1
  go_wp2_with fail
  refine upon_insert ht.out Tryz.underlying114 (by simp [maxLen]) _ _ _ (Go.WideMaps.keyOf_string_mk Tryz.underlying9 (by simp [maxLen, ByteArray.size])) .nil [] rfl fun w' ht' => ?_
  replace ht := Lib.hid ht'; clear ht'
  go_wp2_with fail
  refine upon_insert ht.out Tryz.underlying114 (by simp [maxLen]) _ _ _ (Go.WideMaps.keyOf_string_mk Tryz.underlying9 (by simp [maxLen, ByteArray.size])) .nil [] rfl fun w' ht' => ?_
  replace ht := Lib.hid ht'; clear ht'
  go_wp2_with fail
  refine upon_insert ht.out Tryz.underlying114 (by simp [maxLen]) _ _ _ (Go.WideMaps.keyOf_string_mk Tryz.underlying9 (by simp [maxLen, ByteArray.size])) .nil [] rfl fun w' ht' => ?_
  replace ht := Lib.hid ht'; clear ht'
  go_wp2_with fail
  refine upon_insert ht.out Tryz.underlying114 (by simp [maxLen]) _ _ _ (Go.WideMaps.keyOf_string_mk Tryz.underlying9 (by simp [maxLen, ByteArray.size])) .nil [] rfl fun w' ht' => ?_
  replace ht := Lib.hid ht'; clear ht'
  go_wp2_with fail
  refine upon_insert ht.out Tryz.underlying114 (by simp [maxLen]) _ _ _ (Go.WideMaps.keyOf_string_mk Tryz.underlying9 (by simp [maxLen, ByteArray.size])) .nil [] rfl fun w' ht' => ?_
  replace ht := Lib.hid ht'; clear ht'
  go_wp2_with fail
  refine upon_insert ht.out Tryz.underlying114 (by simp [maxLen]) _ _ _ (Go.WideMaps.keyOf_string_mk Tryz.underlying9 (by simp [maxLen, ByteArray.size])) .nil [] rfl fun w' ht' => ?_
  replace ht := Lib.hid ht'; clear ht'
  go_wp2_with fail
  refine upon_insert ht.out Tryz.underlying114 (by simp [maxLen]) _ _ _ (Go.WideMaps.keyOf_string_mk Tryz.underlying9 (by simp [maxLen, ByteArray.size])) .nil [] rfl fun w' ht' => ?_
  replace ht := Lib.hid ht'; clear ht'
  go_wp2_with fail
  refine upon_insert ht.out Tryz.underlying114 (by simp [maxLen]) _ _ _ (Go.WideMaps.keyOf_string_mk Tryz.underlying9 (by simp [maxLen, ByteArray.size])) .nil [] rfl fun w' ht' => ?_
  replace ht := Lib.hid ht'; clear ht'
  go_wp2_with fail
  refine upon_insert ht.out Tryz.underlying114 (by simp [maxLen]) _ _ _ (Go.WideMaps.keyOf_string_mk Tryz.underlying9 (by simp [maxLen, ByteArray.size])) .nil [] rfl fun w' ht' => ?_
  replace ht := Lib.hid ht'; clear ht'
  go_wp2_with fail
  refine upon_insert ht.out Tryz.underlying114 (by simp [maxLen]) _ _ _ (Go.WideMaps.keyOf_string_mk Tryz.underlying9 (by simp [maxLen, ByteArray.size])) .nil [] rfl fun w' ht' => ?_
  replace ht := Lib.hid ht'; clear ht'
  go_wp2_with fail
  refine (mk206 _ _ _ _ ).mono ?_
  rintro _ w2 ⟨f2, a2, b2, rfl, q2⟩
  replace ht := Lib.hid (ht.out.next (Lib.hid q2).out)
  clear q2
  go_wp2_with fail
  refine upon_insert ht.out Tryz.underlying114 (by simp [maxLen]) _ _ _ (Go.WideMaps.keyOf_string_mk Tryz.underlying9 (by simp [maxLen, ByteArray.size])) .nil [] rfl fun w' ht' => ?_
  replace ht := Lib.hid ht'; clear ht'
  go_wp2_with fail
  go_ret
  exact ⟨_, rfl, ht.out⟩
end Go.Proofs.YtdmbppgogdkpdaaGreatDoor
