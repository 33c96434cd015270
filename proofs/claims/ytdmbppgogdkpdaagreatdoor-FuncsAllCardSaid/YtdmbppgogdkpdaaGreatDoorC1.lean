/-
  The list of the functions of numbers: ranged over, sorted. No condition.
-/
import Derived.Test.YtdmbppgogdkpdaaGreatDoorC0
import Derived.Maps.RangeWalk
import Derived.Sort.OwnSorted
import Derived.Sort.KeysCollected
import Derived.OwnWalk
namespace Go.Proofs.YtdmbppgogdkpdaaGreatDoor
open Go.RowKit Go.Maps Go.Sort Go.Shelf
theorem info9 : (Tryz.prog.info? 9).map (fun i => (i.zero, i.size, i.bytes)) = some (some (.string ⟨#[]⟩), 1, 16) := by kernel_rfl
def sorted86 : List (List UInt8) := strKeys (dOf names86)
theorem sorted86_sorted : sorted86.Pairwise fun x y => decide (x ≤ y) = true := of_decide_eq_true (by kernel_rfl)
theorem len86 : (strKeys (dOf names86)).length = 19 := by kernel_rfl
set_option maxRecDepth 100000 in
set_option maxHeartbeats 2000000 in
theorem names42 (w : World) : Calls Tryz.prog 42 #[] w fun e w' => ∃ v, e = .returned v ∧ StrS w' v sorted86 ∧ Below w.heap.size w w' := by
  obtain ⟨i0, hi, hz0, hz1, hz2⟩ := info_parts info9
  go_enter Tryz.func42, Tryz.ntmps42
  go_wp2_with fail
  refine Calls.mono (table86 w) ?_
  rintro _ w1 ⟨b, rfl, ht⟩
  have hsz : Maps.size (dOf names86) = names86.length := by kernel_rfl
  have hsz' : names86.length ≤ 20 := by decide
  go_wp2_with (at_range; refine wpList_range_own _ rfl _ 88 rfl 9 _ law9 Tryz.underlying88 R0 b _ (dOf names86) rfl ht.own ?_; intro w0 hrg0 hg0 hs0)
  go_frame
  go_loopw [1] (fun v wr => ∃ (left : Lit → Bool) (cnt : Nat) (ss : List (List UInt8)), wr.ranges Tryz.prog 9 R0 b w1.heap.size 19 (dOf names86) left cnt ∧ ss.length + cnt ≤ Maps.size (dOf names86) ∧
      wr.ownsRow (w1.heap.size + 1) 9 1 v ss.length (ss.map encStr) ∧ Collected (dOf names86) left ss ∧ Below w.heap.size w wr)
    (fun _ wr => wr.rangeLeft b w1.heap.size)
  case atStart =>
    exact ⟨_, _, [], hrg0, by simp, World.ownsRow_nil _ _ _ _, Collected.start _, ht.below.grown hg0 ht.below.size (fun j hj => by cases hj)⟩
  case round =>
    obtain ⟨left, cnt, ss, hrg, hcs, hrow, hC, hnx⟩ := hrel
    go_wp2_with (at_next; refine wpList_next_ranges _ rfl _ rfl 9 law9 R0 encStr (fun v : Value => v) (fun key kl hk => by obtain ⟨x, hx, _⟩ := Maps.keyOf_str Tryz.underlying9 hk; exact ⟨x, hx⟩) (fun v y _ => ⟨v, rfl⟩) b w1.heap.size _ _ left cnt rfl hrg ?_ ?_)
    · intro hc0 hl0
      have hp := hC.perm ht.own law9 Tryz.underlying9 hl0
      rcases hrow.2 with ⟨_, hz⟩ | ⟨g, cap, cur, rfl, hbase, hb, h1, h2, h3, h4⟩
      · exfalso; rw [hp.length_eq, len86] at hz; cases hz
      have hH : Holds encStr wr g 0 ss.toArray := holds_of_block hb (by simpa using h4)
      have hgl : g < wr.heap.size := (Array.getElem?_eq_some_iff.1 hb).1
      have hc : Calls Tryz.prog 41 _ wr _ := AnyM.slices_Sort_string sh_sort41 g 0 cap ss wr hH hgl (by rw [hp.length_eq, len86]; decide)
      go_wp2_with fail
      refine Calls.mono hc ?_
      rintro _ w2 ⟨rfl, nn, os, rfl⟩
      go_wp2_with fail
      go_ret
      have hrow' := ownsRow_sorted (n := nn) (os := os) (List.length_mergeSort (le := fun x y => decide (x ≤ y)) ss) hbase hb h1 h2 h3
      rw [sorted_perm hp sorted86_sorted] at hrow'
      rw [sorted_perm hp sorted86_sorted]
      exact ⟨_, rfl, StrS.of_row hrow', hnx.grown (grownBy_sorted _) hnx.size (fun j hj => by cases hj; have := ht.below.size; omega)⟩
    · intro x c kl yd yp w2 cnt2 hkey hlk hv hat hrg2 hlt hg2 hs2 hen
      obtain ⟨x', ex, rfl, _⟩ := Maps.keyOf_str Tryz.underlying9 hkey
      obtain rfl : x = x' := encStr_inj ex
      have hrow2 := hrow.kept hg2 (Or.inr (row_ne_iter hrow hrg).symm)
      clear hs2
      go_wp2_with (at_builtin; refine wpList_append_own_at _ rfl _ _ 46 rfl (w1.heap.size + 1) 9 i0 (.string ⟨#[]⟩) 1 16 Tryz.underlying46 hi hz0 hz1 hz2 rfl (by decide) _ _ _ rfl (hrow2.alloc _) ⟨w2.heap.size, 0, none⟩ 1 1 [encStr x] rfl rfl (cell_one_new _ _ _) (by simp [Value.oneCell', encStr]) (by unfold maxLen at *; omega) (by omega) (by have := hrg2.lt; simp; omega) ?_; intro v' w3 hown' hg3 hnil3 _; go_frame)
      have hbl : b < w1.heap.size + 1 := by have := ht.lt; omega
      have hrg3 := (hrg2.alloc _).kept hg3 (row_ne_low hrow2 hbl) (row_ne_iter hrow2 hrg2)
      refine ⟨⟨_, cnt2, ss ++ [x], hrg3, by simp; omega, by simpa using hown', hC.step hlk hat, ?_⟩, ?_⟩
      · have hz := ht.below.size
        exact ((hnx.grown hg2 hnx.size (fun j hj => by cases hj; exact hz)).alloc (by have := hnx.size; have := hg2.size; omega) _).grown hg3 (by have := hnx.size; have := hg2.size; simp; omega) (fun j hj => by have := (hrow2.lt j hj).1; omega)
      · rw [hrg3.left_eq, hrg.left_eq]; exact hlt
end Go.Proofs.YtdmbppgogdkpdaaGreatDoor
