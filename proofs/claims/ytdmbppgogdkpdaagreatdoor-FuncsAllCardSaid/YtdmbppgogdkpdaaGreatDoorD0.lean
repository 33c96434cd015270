/-
  The law FuncsNames, but for 'awake'. No condition.
-/
import Derived.Test.YtdmbppgogdkpdaaGreatDoorC6
import Derived.Test.YtdmbppgogdkpdaaGreatDoorC7
namespace Go.Proofs.YtdmbppgogdkpdaaGreatDoor
open Go.RowKit Go.Maps Go.Sort Go.Shelf
def AwakeP : Prop := ∀ w : World, Calls Tryz.prog 7 #[] w fun e w' => e = .returned (.bool true) ∧ Below w.heap.size w w'
set_option maxRecDepth 100000 in
set_option maxHeartbeats 4000000 in
theorem law3 (hA : AwakeP) (s : ByteArray) (w : World) : Calls Tryz.prog 3 #[.string s] w fun e w' => e = .returned (.bool true) ∧ Below w.heap.size w w' := by
  have HC := fun W => count9 s W
  have HK := fun W => known11 s W
  have HL := fun W => lazy13 s W
  rw [← (count_same s.toList).1] at HC
  rw [← (count_same s.toList).2.1] at HK
  rw [← (count_same s.toList).2.2] at HL
  have HD := fun W => count8 s W
  have HM := fun W => known10 s W
  have HE := fun W => lazy12 s W
  generalize countP s.toList = c at *
  generalize lazyP s.toList = z at *
  obtain ⟨c1, c2, c3⟩ := c
  dsimp only at *
  have HC := Lib.hid HC
  have HK := Lib.hid HK
  have HL := Lib.hid HL
  have HD := Lib.hid HD
  have HM := Lib.hid HM
  have HE := Lib.hid HE
  have HA := Lib.hid hA
  clear hA
  by_cases hn : 100 < s.size
  · go_enter Tryz.func3, Tryz.ntmps3
    go_wp2_with fail
    refine Calls.mono (HA.out _) ?_
    rintro _ w1 ⟨rfl, q⟩
    have HQ := Lib.hid q
    clear q
    go_wp2_with fail
    go_ret
    exact ⟨rfl, HQ.out⟩
  · go_enter Tryz.func3, Tryz.ntmps3
    go_wp2_with fail
    refine Calls.mono (HA.out _) ?_
    rintro _ w1 ⟨rfl, q⟩
    have HQ := Lib.hid q
    clear q
    go_wp2_with fail
    refine Calls.mono (HD.out _) ?_
    rintro _ w2 ⟨rfl, q⟩
    have HQ2 := Lib.hid (HQ.out.trans (q.mono HQ.out.size))
    clear q HQ
    go_wp2_with fail
    refine Calls.mono (HC.out _) ?_
    rintro _ w3 ⟨rfl, q⟩
    have HQ := Lib.hid (HQ2.out.trans (q.mono HQ2.out.size))
    clear q HQ2
    go_wp2_with fail
    refine Calls.mono (HM.out _) ?_
    rintro _ w4 ⟨rfl, q⟩
    have HQ2 := Lib.hid (HQ.out.trans (q.mono HQ.out.size))
    clear q HQ
    go_wp2_with fail
    refine Calls.mono (HK.out _) ?_
    rintro _ w5 ⟨rfl, q⟩
    have HQ := Lib.hid (HQ2.out.trans (q.mono HQ2.out.size))
    clear q HQ2
    go_wp2_with fail
    refine Calls.mono (HE.out _) ?_
    rintro _ w6 ⟨rfl, rfl⟩
    go_wp2_with fail
    refine Calls.mono (HL.out _) ?_
    rintro _ w7 ⟨rfl, rfl⟩
    go_wp2_with fail
    refine Calls.mono (HM.out _) ?_
    rintro _ w8 ⟨rfl, q⟩
    have HQ2 := Lib.hid (HQ.out.trans (q.mono HQ.out.size))
    clear q HQ
    go_wp2_with fail
    go_ret
    exact ⟨by simp, HQ2.out⟩
end Go.Proofs.YtdmbppgogdkpdaaGreatDoor
