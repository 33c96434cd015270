/-
  The lists of names: each 'Names' (but fmath's) hands a new slice with the table's keys, sorted. No condition.
-/
import Derived.Test.YtdmbppgogdkpdaaGreatDoorB1
import Derived.Test.YtdmbppgogdkpdaaGreatDoorB2
import Derived.Test.YtdmbppgogdkpdaaGreatDoorB3
namespace Go.Proofs.YtdmbppgogdkpdaaGreatDoor
open Go.RowKit Go.Maps Go.Sort Go.Shelf
/-- v is a slice that holds the strings L. -/
def StrS (w : World) (v : Value) (L : List (List UInt8)) : Prop := ∃ A c, v = .slice A L.length c ∧ L.length ≤ maxLen ∧ OnesR w (fun _ => 0) 0 A (L.map encStr)
theorem StrS.keep {w w' : World} {v : Value} {L : List (List UInt8)} (h : StrS w v L) (k : Below w.heap.size w w') : StrS w' v L := by
  obtain ⟨A, c, hv, hm, hr⟩ := h
  refine ⟨A, c, hv, hm, fun hl => ?_⟩
  obtain ⟨b, off, hA, ho, hb, hc⟩ := hr hl
  exact ⟨b, off, hA, ho, Nat.lt_of_lt_of_le hb k.size, fun i hi => by rw [World.cell?_of_block (w := w) (a := ⟨b, off + i, none⟩) (k.block b hb)]; exact hc i hi⟩
theorem StrS.of_row {w : World} {v : Value} {L : List (List UInt8)} {n B : Nat} (h : w.ownsRow B 9 1 v n (L.map encStr)) : StrS w v L := by
  have hr : Row w (fun _ => 0) 0 9 1 v n (L.map encStr) := by
    refine ⟨⟨h.1, ?_⟩, fun _ _ => rfl⟩
    rcases h.2 with hn | ⟨g, cap, cur, hv, hb, rest⟩
    · exact .inl hn
    · exact .inr ⟨g, cap, cur, hv, Nat.zero_le _, rest⟩
  obtain ⟨A, c, rfl, hm⟩ := hr.form
  obtain ⟨hn, ho⟩ := hr.toOnesR
  have hl : n = L.length := by rw [hn]; simp
  exact ⟨A, c, by rw [hl], by rw [← hl]; exact hm, ho⟩
/-- What is sorted stays so. -/
theorem sorted_perm {ss L : List (List UInt8)} (hp : ss.Perm L) (p2 : L.Pairwise fun x y => decide (x ≤ y) = true) : ss.mergeSort (fun x y => decide (x ≤ y)) = L := by
  have tr : ∀ a b c : List UInt8, decide (a ≤ b) = true → decide (b ≤ c) = true → decide (a ≤ c) = true := fun a b c h1 h2 => decide_eq_true (List.le_trans (of_decide_eq_true h1) (of_decide_eq_true h2))
  have tot : ∀ a b : List UInt8, (decide (a ≤ b) || decide (b ≤ a)) = true := fun a b => by
    rcases List.le_total a b with h | h <;> simp [h]
  have p1 := List.pairwise_mergeSort (le := fun x y => decide (x ≤ y)) tr tot ss
  refine List.Perm.eq_of_pairwise (le := fun a b => decide (a ≤ b) = true) (fun a b _ _ h1 h2 => List.le_antisymm (of_decide_eq_true h1) (of_decide_eq_true h2)) p1 p2 ?_
  exact (List.mergeSort_perm ss _).trans hp

def sorted90 : List (List UInt8) := strKeys (dOf names90)
theorem sorted90_sorted : sorted90.Pairwise fun x y => decide (x ≤ y) = true := of_decide_eq_true (by kernel_rfl)
set_option maxHeartbeats 1000000 in
theorem names45 (w : World) : Calls Tryz.prog 45 #[] w fun e w' => ∃ v, e = .returned v ∧ StrS w' v sorted90 ∧ Below w.heap.size w w' := by
  go_enter Tryz.func45, Tryz.ntmps45
  go_wp2_with fail
  refine Calls.mono (table90 w) ?_
  rintro _ w1 ⟨b, rfl, ht⟩
  go_wp2_with fail
  refine Calls.mono (callsIn_wide.1 (sh_maps_Keys_89 (some b) w1)) ?_
  rintro _ w2 ⟨rfl, rfl⟩
  have hsz : Maps.size (dOf names90) = names90.length := by kernel_rfl
  have hsz' : names90.length ≤ 20 := by decide
  have hmax : Maps.size (dOf names90) ≤ maxLen := by rw [hsz]; exact Nat.le_trans hsz' (by decide)
  have hbytes : Maps.size (dOf names90) * 16 ≤ 140737488355328 := by rw [hsz]; omega
  go_wp2_with fail
  refine Calls.mono (callsIn_wide.1 (sh_slices_Sorted_keys_88_89 b _ (dOf names90) R0 w1 ht.own hmax hbytes)) ?_
  rintro _ w3 ⟨v, ss, rfl, hS, hrow, hnil, hb⟩
  go_wp2_with fail
  go_ret
  rw [sorted_perm hS sorted90_sorted] at hrow
  exact ⟨_, rfl, StrS.of_row hrow, (ht.below.alloc ht.below.size _).trans (hb.mono (Nat.le_trans ht.below.size (by simp)))⟩

def sorted96 : List (List UInt8) := strKeys (dOf names96)
theorem sorted96_sorted : sorted96.Pairwise fun x y => decide (x ≤ y) = true := of_decide_eq_true (by kernel_rfl)
set_option maxHeartbeats 1000000 in
theorem names51 (w : World) : Calls Tryz.prog 51 #[] w fun e w' => ∃ v, e = .returned v ∧ StrS w' v sorted96 ∧ Below w.heap.size w w' := by
  go_enter Tryz.func51, Tryz.ntmps51
  go_wp2_with fail
  refine Calls.mono (table96 w) ?_
  rintro _ w1 ⟨b, rfl, ht⟩
  go_wp2_with fail
  refine Calls.mono (callsIn_wide.1 (sh_maps_Keys_95 (some b) w1)) ?_
  rintro _ w2 ⟨rfl, rfl⟩
  have hsz : Maps.size (dOf names96) = names96.length := by kernel_rfl
  have hsz' : names96.length ≤ 20 := by decide
  have hmax : Maps.size (dOf names96) ≤ maxLen := by rw [hsz]; exact Nat.le_trans hsz' (by decide)
  have hbytes : Maps.size (dOf names96) * 16 ≤ 140737488355328 := by rw [hsz]; omega
  go_wp2_with fail
  refine Calls.mono (callsIn_wide.1 (sh_slices_Sorted_keys_88_95 b _ (dOf names96) R0 w1 ht.own hmax hbytes)) ?_
  rintro _ w3 ⟨v, ss, rfl, hS, hrow, hnil, hb⟩
  go_wp2_with fail
  go_ret
  rw [sorted_perm hS sorted96_sorted] at hrow
  exact ⟨_, rfl, StrS.of_row hrow, (ht.below.alloc ht.below.size _).trans (hb.mono (Nat.le_trans ht.below.size (by simp)))⟩

def sorted99 : List (List UInt8) := strKeys (dOf names99)
theorem sorted99_sorted : sorted99.Pairwise fun x y => decide (x ≤ y) = true := of_decide_eq_true (by kernel_rfl)
set_option maxHeartbeats 1000000 in
theorem names54 (w : World) : Calls Tryz.prog 54 #[] w fun e w' => ∃ v, e = .returned v ∧ StrS w' v sorted99 ∧ Below w.heap.size w w' := by
  go_enter Tryz.func54, Tryz.ntmps54
  go_wp2_with fail
  refine Calls.mono (table99 w) ?_
  rintro _ w1 ⟨b, rfl, ht⟩
  go_wp2_with fail
  refine Calls.mono (callsIn_wide.1 (sh_maps_Keys_98 (some b) w1)) ?_
  rintro _ w2 ⟨rfl, rfl⟩
  have hsz : Maps.size (dOf names99) = names99.length := by kernel_rfl
  have hsz' : names99.length ≤ 20 := by decide
  have hmax : Maps.size (dOf names99) ≤ maxLen := by rw [hsz]; exact Nat.le_trans hsz' (by decide)
  have hbytes : Maps.size (dOf names99) * 16 ≤ 140737488355328 := by rw [hsz]; omega
  go_wp2_with fail
  refine Calls.mono (callsIn_wide.1 (sh_slices_Sorted_keys_88_98 b _ (dOf names99) R0 w1 ht.own hmax hbytes)) ?_
  rintro _ w3 ⟨v, ss, rfl, hS, hrow, hnil, hb⟩
  go_wp2_with fail
  go_ret
  rw [sorted_perm hS sorted99_sorted] at hrow
  exact ⟨_, rfl, StrS.of_row hrow, (ht.below.alloc ht.below.size _).trans (hb.mono (Nat.le_trans ht.below.size (by simp)))⟩

theorem sorted93_sorted : sorted93.Pairwise fun x y => decide (x ≤ y) = true := of_decide_eq_true (by kernel_rfl)
set_option maxHeartbeats 1000000 in
theorem names48 (w : World) : Calls Tryz.prog 48 #[] w fun e w' => ∃ v, e = .returned v ∧ StrS w' v sorted93 ∧ Below w.heap.size w w' := by
  go_enter Tryz.func48, Tryz.ntmps48
  go_wp2_with fail
  refine Calls.mono (table93 w) ?_
  rintro _ w1 ⟨b, D, a, rfl, ht, hk, _, _⟩
  go_wp2_with fail
  refine Calls.mono (callsIn_wide.1 (sh_maps_Keys_92 (some b) w1)) ?_
  rintro _ w2 ⟨rfl, rfl⟩
  have hs : Maps.size D ≤ 10 := by
    have hl := congrArg List.length hk
    rcases D <;> first | (simp [strKeys, sorted93] at hl; done) | (simp [strKeys, sorted93] at hl; simp [Maps.size, hl])
  have hmax : Maps.size D ≤ maxLen := Nat.le_trans hs (by decide)
  have hbytes : Maps.size D * 16 ≤ 140737488355328 := by omega
  go_wp2_with fail
  refine Calls.mono (callsIn_wide.1 (sh_slices_Sorted_keys_88_92 b _ D R1 w1 ht.own hmax hbytes)) ?_
  rintro _ w3 ⟨v, ss, rfl, hS, hrow, hnil, hb⟩
  go_wp2_with fail
  go_ret
  rw [hk] at hS
  rw [sorted_perm hS sorted93_sorted] at hrow
  exact ⟨_, rfl, StrS.of_row hrow, (ht.below.alloc ht.below.size _).trans (hb.mono (Nat.le_trans ht.below.size (by simp)))⟩

end Go.Proofs.YtdmbppgogdkpdaaGreatDoor
