/-
  The table of the logic: its entry for NOT is a closure that holds 'not'. No condition.
-/
import Derived.Test.YtdmbppgogdkpdaaGreatDoorB0
import Derived.Sort.KeysCollected
namespace Go.Proofs.YtdmbppgogdkpdaaGreatDoor
open Go.RowKit Go.Maps Go.Sort
theorem new_lies (W : World) (o : Obj) : (W.alloc o).heap[W.heap.size]? = some o := Array.getElem?_push_size
theorem mk191b (fn : Fn) (a b : Array Value) (w : World) : Calls Tryz.prog 191 #[.func fn a b] w (MkP w) :=
  (mk191 fn a b w).mono fun _ _ h => ⟨_, _, _, h.1, by rw [h.2]; exact (Below.refl _ _).alloc (Nat.le_refl _) _⟩
def sorted93 : List (List UInt8) := [[65, 78, 68], [73, 83, 66, 76, 65, 78, 75], [73, 83, 69, 82, 82, 79, 82], [73, 83, 76, 79, 71, 73, 67, 65, 76],
  [73, 83, 78, 85, 77, 66, 69, 82], [73, 83, 84, 69, 88, 84], [78, 65], [78, 79, 84], [79, 82], [88, 79, 82]]
/-- The block a, other than the map's, holds 'not'. -/
structure NBox (w : World) (b a : Nat) (W : World) : Prop where
  lies : W.heap[a]? = some (.cells #[.func (.func 192) #[] #[]] 83)
  ge : w.heap.size ≤ a
  ne : a ≠ b
theorem NBox.next {w W W' : World} {b a : Nat} (h : NBox w b a W) (q : Below W.heap.size W W') : NBox w b a W' := ⟨hbk h.lies q, h.ge, h.ne⟩
theorem NBox.grown {w W W' : World} {b a : Nat} (h : NBox w b a W) (g : W.grownBy W' (some b)) : NBox w b a W' :=
  ⟨(g.block a (by
    rcases Nat.lt_or_ge a W.heap.size with k | k
    · exact k
    · have := h.lies; rw [Array.getElem?_eq_none k] at this; cases this) (by intro e; exact h.ne (Option.some.inj e))).trans h.lies, h.ge, h.ne⟩
set_option maxRecDepth 100000 in
theorem upon_insert2 {H : Type} {R : Value → Option (DataW H × List MemPlace)} {w W : World} {b n : Nat} {D : DataW H} {t : TypeId} {e : TypeId} {o : Oper} {a : Act} {next : Act → World → Prop} {Q : Exit → Act → World → Prop} {f : Unit → World → Result Next}
    (hT : Tab R w b n D W) (ht : Tryz.prog.underlying t = some (.map 9 e)) (hn : n < maxLen) (key val : Value) (kl : Lit) (hkey : keyOf Tryz.prog 9 key = some kl) (d : DataW H) (ps : List MemPlace) (hval : R val = some (d, ps))
    (h : ∀ W', Tab R w b (n + 1) (D.put kl d) W' → W.grownBy W' (some b) → Oper.upon Tryz.prog o a next Q (f () W')) :
    Oper.upon Tryz.prog o a next Q ((Sem.run Tryz.prog (Instr.mapUpdate t (.map (some b)) key val) W).andThen f) := by
  obtain ⟨W', hrun, r1, r2⟩ := hT.own.update law9 ht hn hkey hval
  exact upon_run hrun (h W' (hT.put r1 r2) r2)
theorem keys93 (v0 v1 v2 v3 v4 v5 v6 v7 v8 v9 : DataW Value) : strKeys (((((((((((DataW.map []).put (.string [65, 78, 68]) v0).put (.string [79, 82]) v1).put (.string [88, 79, 82]) v2).put (.string [78, 79, 84]) v3).put (.string [73, 83, 66, 76, 65, 78, 75]) v4).put (.string [73, 83, 78, 85, 77, 66, 69, 82]) v5).put (.string [73, 83, 84, 69, 88, 84]) v6).put (.string [73, 83, 76, 79, 71, 73, 67, 65, 76]) v7).put (.string [73, 83, 69, 82, 82, 79, 82]) v8).put (.string [78, 65]) v9) = sorted93 := by kernel_rfl
theorem at93 (v0 v1 v2 v3 v4 v5 v6 v7 v8 v9 z : DataW Value) : (((((((((((DataW.map []).put (.string [65, 78, 68]) v0).put (.string [79, 82]) v1).put (.string [88, 79, 82]) v2).put (.string [78, 79, 84]) v3).put (.string [73, 83, 66, 76, 65, 78, 75]) v4).put (.string [73, 83, 78, 85, 77, 66, 69, 82]) v5).put (.string [73, 83, 84, 69, 88, 84]) v6).put (.string [73, 83, 76, 79, 71, 73, 67, 65, 76]) v7).put (.string [73, 83, 69, 82, 82, 79, 82]) v8).put (.string [78, 65]) v9).atKey (.string [78, 79, 84]) z = v3 := by kernel_rfl
theorem none93 (v0 v1 v2 v3 v4 v5 v6 v7 v8 v9 z : DataW Value) : (((((((((((DataW.map []).put (.string [65, 78, 68]) v0).put (.string [79, 82]) v1).put (.string [88, 79, 82]) v2).put (.string [78, 79, 84]) v3).put (.string [73, 83, 66, 76, 65, 78, 75]) v4).put (.string [73, 83, 78, 85, 77, 66, 69, 82]) v5).put (.string [73, 83, 84, 69, 88, 84]) v6).put (.string [73, 83, 76, 79, 71, 73, 67, 65, 76]) v7).put (.string [73, 83, 69, 82, 82, 79, 82]) v8).put (.string [78, 65]) v9).atKey (.string [73, 70]) z = z := by kernel_rfl
set_option maxRecDepth 100000 in
set_option maxHeartbeats 4000000 in
theorem table93 (w : World) : Calls Tryz.prog 93 #[] w fun e w' => ∃ b D a, e = .returned (.map (some b)) ∧ Tab R1 w b 10 D w' ∧ strKeys D = sorted93 ∧
    (∀ z, D.atKey (.string [78, 79, 84]) z = .held (.agg #[.int .i64 1, .int .i64 1, .func (.func 279) #[] #[.pointer (some ⟨a, 0, none⟩)]])) ∧ NBox w b a w' ∧ ∀ z, D.atKey (.string [73, 70]) z = z := by
  have hmm := @run_makeMap Tryz.prog
  have ht := Lib.hid (Tab.start (R := R1) w)
  go_enter Tryz.func93, Tryz.ntmps93
  go_wp2_with fail
  refine (mk187 _ _ _ _ ).mono ?_
  rintro _ w1 ⟨f1, a1, b1, rfl, q1⟩
  replace ht := Lib.hid (ht.out.next (Lib.hid q1).out)
  clear q1
  go_wp2_with fail
  refine upon_insert ht.out Tryz.underlying102 (by simp [maxLen]) _ _ _ (Go.WideMaps.keyOf_string_mk Tryz.underlying9 (by simp [maxLen, ByteArray.size])) (.held _) [] rfl fun w' ht' => ?_
  replace ht := Lib.hid ht'; clear ht'
  go_wp2_with fail
  refine (mk187 _ _ _ _ ).mono ?_
  rintro _ w2 ⟨f2, a2, b2, rfl, q2⟩
  replace ht := Lib.hid (ht.out.next (Lib.hid q2).out)
  clear q2
  go_wp2_with fail
  refine upon_insert ht.out Tryz.underlying102 (by simp [maxLen]) _ _ _ (Go.WideMaps.keyOf_string_mk Tryz.underlying9 (by simp [maxLen, ByteArray.size])) (.held _) [] rfl fun w' ht' => ?_
  replace ht := Lib.hid ht'; clear ht'
  go_wp2_with fail
  refine (mk187 _ _ _ _ ).mono ?_
  rintro _ w3 ⟨f3, a3, b3, rfl, q3⟩
  replace ht := Lib.hid (ht.out.next (Lib.hid q3).out)
  clear q3
  go_wp2_with fail
  refine upon_insert ht.out Tryz.underlying102 (by simp [maxLen]) _ _ _ (Go.WideMaps.keyOf_string_mk Tryz.underlying9 (by simp [maxLen, ByteArray.size])) (.held _) [] rfl fun w' ht' => ?_
  replace ht := Lib.hid ht'; clear ht'
  go_wp2_with fail
  have hN := Lib.hid (NBox.mk (w := w) (b := w.heap.size) (new_lies w' (.cells #[.func (.func 192) #[] #[]] 83)) ht.out.below.size (Nat.ne_of_gt ht.out.lt))
  refine Calls.mono (mk191 _ _ _ _) ?_
  rintro _ w4 ⟨rfl, rfl⟩
  replace ht := Lib.hid (ht.out.next ((Below.refl _ _).alloc (Nat.le_refl _) (.cells #[.func (.func 192) #[] #[]] 83)))
  go_wp2_with fail
  refine upon_insert2 ht.out Tryz.underlying102 (by simp [maxLen]) _ _ _ (Go.WideMaps.keyOf_string_mk Tryz.underlying9 (by simp [maxLen, ByteArray.size])) (.held _) [] rfl fun w' ht' hg' => ?_
  replace ht := Lib.hid ht'; clear ht'
  replace hN := Lib.hid (hN.out.grown hg'); clear hg'
  go_wp2_with fail
  refine (mk193 _ _ ).mono ?_
  rintro _ w5 ⟨f5, a5, b5, rfl, q5⟩
  replace ht := Lib.hid (ht.out.next (Lib.hid q5).out)
  replace hN := Lib.hid (hN.out.next q5)
  clear q5
  go_wp2_with fail
  refine Calls.mono (mk191b _ _ _ _) ?_
  rintro _ w6 ⟨f6, a6, b6, rfl, q6⟩
  replace ht := Lib.hid (ht.out.next q6)
  replace hN := Lib.hid (hN.out.next q6)
  clear q6
  go_wp2_with fail
  refine upon_insert2 ht.out Tryz.underlying102 (by simp [maxLen]) _ _ _ (Go.WideMaps.keyOf_string_mk Tryz.underlying9 (by simp [maxLen, ByteArray.size])) (.held _) [] rfl fun w' ht' hg' => ?_
  replace ht := Lib.hid ht'; clear ht'
  replace hN := Lib.hid (hN.out.grown hg'); clear hg'
  go_wp2_with fail
  refine (mk193 _ _ ).mono ?_
  rintro _ w7 ⟨f7, a7, b7, rfl, q7⟩
  replace ht := Lib.hid (ht.out.next (Lib.hid q7).out)
  replace hN := Lib.hid (hN.out.next q7)
  clear q7
  go_wp2_with fail
  refine Calls.mono (mk191b _ _ _ _) ?_
  rintro _ w8 ⟨f8, a8, b8, rfl, q8⟩
  replace ht := Lib.hid (ht.out.next q8)
  replace hN := Lib.hid (hN.out.next q8)
  clear q8
  go_wp2_with fail
  refine upon_insert2 ht.out Tryz.underlying102 (by simp [maxLen]) _ _ _ (Go.WideMaps.keyOf_string_mk Tryz.underlying9 (by simp [maxLen, ByteArray.size])) (.held _) [] rfl fun w' ht' hg' => ?_
  replace ht := Lib.hid ht'; clear ht'
  replace hN := Lib.hid (hN.out.grown hg'); clear hg'
  go_wp2_with fail
  refine (mk193 _ _ ).mono ?_
  rintro _ w9 ⟨f9, a9, b9, rfl, q9⟩
  replace ht := Lib.hid (ht.out.next (Lib.hid q9).out)
  replace hN := Lib.hid (hN.out.next q9)
  clear q9
  go_wp2_with fail
  refine Calls.mono (mk191b _ _ _ _) ?_
  rintro _ w10 ⟨f10, a10, b10, rfl, q10⟩
  replace ht := Lib.hid (ht.out.next q10)
  replace hN := Lib.hid (hN.out.next q10)
  clear q10
  go_wp2_with fail
  refine upon_insert2 ht.out Tryz.underlying102 (by simp [maxLen]) _ _ _ (Go.WideMaps.keyOf_string_mk Tryz.underlying9 (by simp [maxLen, ByteArray.size])) (.held _) [] rfl fun w' ht' hg' => ?_
  replace ht := Lib.hid ht'; clear ht'
  replace hN := Lib.hid (hN.out.grown hg'); clear hg'
  go_wp2_with fail
  refine (mk193 _ _ ).mono ?_
  rintro _ w11 ⟨f11, a11, b11, rfl, q11⟩
  replace ht := Lib.hid (ht.out.next (Lib.hid q11).out)
  replace hN := Lib.hid (hN.out.next q11)
  clear q11
  go_wp2_with fail
  refine Calls.mono (mk191b _ _ _ _) ?_
  rintro _ w12 ⟨f12, a12, b12, rfl, q12⟩
  replace ht := Lib.hid (ht.out.next q12)
  replace hN := Lib.hid (hN.out.next q12)
  clear q12
  go_wp2_with fail
  refine upon_insert2 ht.out Tryz.underlying102 (by simp [maxLen]) _ _ _ (Go.WideMaps.keyOf_string_mk Tryz.underlying9 (by simp [maxLen, ByteArray.size])) (.held _) [] rfl fun w' ht' hg' => ?_
  replace ht := Lib.hid ht'; clear ht'
  replace hN := Lib.hid (hN.out.grown hg'); clear hg'
  go_wp2_with fail
  refine (mk193 _ _ ).mono ?_
  rintro _ w13 ⟨f13, a13, b13, rfl, q13⟩
  replace ht := Lib.hid (ht.out.next (Lib.hid q13).out)
  replace hN := Lib.hid (hN.out.next q13)
  clear q13
  go_wp2_with fail
  refine Calls.mono (mk191b _ _ _ _) ?_
  rintro _ w14 ⟨f14, a14, b14, rfl, q14⟩
  replace ht := Lib.hid (ht.out.next q14)
  replace hN := Lib.hid (hN.out.next q14)
  clear q14
  go_wp2_with fail
  refine upon_insert2 ht.out Tryz.underlying102 (by simp [maxLen]) _ _ _ (Go.WideMaps.keyOf_string_mk Tryz.underlying9 (by simp [maxLen, ByteArray.size])) (.held _) [] rfl fun w' ht' hg' => ?_
  replace ht := Lib.hid ht'; clear ht'
  replace hN := Lib.hid (hN.out.grown hg'); clear hg'
  go_wp2_with fail
  refine upon_insert2 ht.out Tryz.underlying102 (by simp [maxLen]) _ _ _ (Go.WideMaps.keyOf_string_mk Tryz.underlying9 (by simp [maxLen, ByteArray.size])) (.held _) [] rfl fun w' ht' hg' => ?_
  replace ht := Lib.hid ht'; clear ht'
  replace hN := Lib.hid (hN.out.grown hg'); clear hg'
  go_wp2_with fail
  go_ret
  first
    | exact ⟨_, rfl, _, ht.out, keys93 .., _, fun z => at93 .., hN.out, fun z => none93 ..⟩
    | exact ⟨_, rfl, _, ht.out, keys93 .., ⟨_, fun z => at93 .., hN.out⟩, fun z => none93 ..⟩
end Go.Proofs.YtdmbppgogdkpdaaGreatDoor
