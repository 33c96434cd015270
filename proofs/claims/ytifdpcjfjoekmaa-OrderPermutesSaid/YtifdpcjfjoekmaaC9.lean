/-
  counterpaneref02.Fold, counterpaneref30.at: their contracts. Conditions: those said in each statement.
-/
import Derived.Test.YtifdpcjfjoekmaaC2
import Derived.Test.YtifdpcjfjoekmaaC8
namespace Go.Proofs.Ytifdpcjfjoekmaa
open Go.RowKit

theorem Try.info5 : (Try.prog.info? 5).map (fun i => (i.zero, i.size, i.bytes)) = some (some (.int .u8 0), 1, 1) := by kernel_rfl
theorem bs1_64 (w : World) (x : Int) : (Instr.buildSlice 64 1 #[(0, .int .u8 x)]).run Try.prog w = .ok (.slice (some ⟨w.heap.size, 0, none⟩) 1 1) (w.alloc (.cells #[.int .u8 x] 5)) := by
  obtain ⟨i0, hi, hi0, hi1, hi2⟩ := info_parts Try.info5
  refine run_buildSlice w 64 5 1 _ _ i0 _ Try.underlying64 hi hi0 (by rw [hi1]; omega) (by rw [hi1]; omega) ?_
  rw [hi1]
  kernel_rfl
theorem conv1 (wr : World) (x : Int) (c : UInt8) (h : x = (c.toNat : Int)) : (convert 64 9 (.slice (some ⟨wr.heap.size, 0, none⟩) 1 1)).run Try.prog (wr.alloc (.cells #[.int .u8 x] 5)) = .ok (.string ⟨#[c]⟩) (wr.alloc (.cells #[.int .u8 x] 5)) := by
  have := run_convert_bytes_back (P := Try.prog) (wr.alloc (.cells #[.int .u8 x] 5)) 64 9 5 ⟨wr.heap.size, 0, none⟩ 1 [c] Try.underlying64 Try.underlying5 Try.underlying9 (fun j hj => by
    obtain rfl : j = 0 := by simp at hj; exact hj
    rw [add_at, (Blk.new wr 5 #[.int .u8 x]).cell, h]
    rfl)
  exact this
def foldTo (s : ByteArray) (k : Nat) : ByteArray := ⟨((s.data.toList.take k).map up).toArray⟩
set_option maxRecDepth 100000 in
set_option maxHeartbeats 1000000 in
theorem rfold_c (s : ByteArray) (hs : s.size ≤ 1000000) (w : World) :
    Calls Try.prog 27 #[.string s] w fun e w' => e = .returned (.string (foldB s)) ∧ Below w.heap.size w w' := by
  have HL := Lib.hid (show s.data.toList.length = s.size by rw [Array.length_toList]; rfl)
  go_enter Try.func27, Try.ntmps27
  go_wp2_with fail
  go_loopw [3, 4] (fun o i wr => ∃ k : Nat, k ≤ s.size ∧ i = .int .i64 k ∧ o = .string (foldTo s k) ∧ Hid (Below w.heap.size w wr)) (fun _ i _ => s.size - (intOf i).toNat)
  case atStart => exact ⟨0, Nat.zero_le _, rfl, rfl, Below.refl _ _⟩
  case round =>
    obtain ⟨k, hk, rfl, rfl, hb⟩ := hrel
    by_cases hlt : k < s.size
    · have hkl : k < s.data.toList.length := by rw [HL.out]; exact hlt
      have hk0 : (0 : Int) ≤ (k : Int) := by omega
      have hkn : (k : Int) < (s.size : Int) := by omega
      have HLo : Hid (¬ (97 ≤ (s[k]).toNat ∧ (s[k]).toNat ≤ 122) → low s[k] = false) := fun h => by
        unfold low
        rw [Bool.and_eq_false_iff, decide_eq_false_iff_not, decide_eq_false_iff_not]
        omega
      have HT : Hid (Value.string (foldTo s k ++ ⟨#[up s[k]]⟩) = Value.string (foldTo s (k + 1))) := Lib.hid (by
        congr 1
        unfold foldTo
        rw [List.take_succ_eq_append_getElem hkl, List.map_append]
        apply ByteArray.ext
        simp
        rfl)
      have HU : Hid (97 ≤ (s[k]).toNat → (s[k]).toNat ≤ 122 → ((up s[k]).toNat : Int) = ((s[k]).toNat : Int) - 97 + 65) := up_low
      have hc255 : ((s[k]).toNat : Int) ≤ 255 := by have := (s[k]).toNat_lt; omega
      have hc0 : (0 : Int) ≤ ((s[k]).toNat : Int) := by omega
      have hsz : (foldTo s k).size ≤ 1000000 := by
        have e : (foldTo s k).size = k := by
          have := HL.out
          show ((s.data.toList.take k).map up).toArray.size = k
          simp only [List.size_toArray, List.length_map, List.length_take]
          omega
        omega
      have HB : Hid (∀ x : Value, Below w.heap.size w (wr.alloc (.cells #[x] 5))) := Lib.hid (fun x => hb.out.alloc (hb.out.size) _)
      by_cases h1 : 97 ≤ (s[k]).toNat
      · have h1' : decide ((97 : Int) ≤ ((s[k]).toNat : Int)) = true := decide_eq_true (by omega)
        by_cases h2 : (s[k]).toNat ≤ 122
        · have h2' : decide (((s[k]).toNat : Int) ≤ (122 : Int)) = true := decide_eq_true (by omega)
          have hb1 : (97 : Int) ≤ ((s[k]).toNat : Int) := by omega
          have hb2 : ((s[k]).toNat : Int) ≤ 122 := by omega
          have hcv := conv1 wr (((s[k]).toNat : Int) - 32) (up s[k]) (by have := HU.out h1 h2; omega)
          have hbs := bs1_64 wr (((s[k]).toNat : Int) - 32)
          go_wp2_with fail
          exact ⟨⟨k + 1, by omega, by go_num, HT.out, Lib.hid (HB.out _)⟩, by simp [intOf] <;> omega⟩
        · have h2' : decide (((s[k]).toNat : Int) ≤ (122 : Int)) = false := decide_eq_false (by omega)
          have hcv := conv1 wr ((s[k]).toNat : Int) (up s[k]) (by rw [up_not (HLo.out (by omega))])
          have hbs := bs1_64 wr ((s[k]).toNat : Int)
          go_wp2_with fail
          exact ⟨⟨k + 1, by omega, by go_num, HT.out, Lib.hid (HB.out _)⟩, by simp [intOf] <;> omega⟩
      · have h1' : decide ((97 : Int) ≤ ((s[k]).toNat : Int)) = false := decide_eq_false (by omega)
        have hcv := conv1 wr ((s[k]).toNat : Int) (up s[k]) (by rw [up_not (HLo.out (by omega))])
        have hbs := bs1_64 wr ((s[k]).toNat : Int)
        go_wp2_with fail
        exact ⟨⟨k + 1, by omega, by go_num, HT.out, Lib.hid (HB.out _)⟩, by simp [intOf] <;> omega⟩
    · obtain rfl : k = s.size := by omega
      have hkn : ¬ ((s.size : Int) < (s.size : Int)) := by omega
      have hz : Hid (foldTo s s.size = foldB s) := Lib.hid (by
        unfold foldTo foldB
        rw [List.take_of_length_le (by rw [HL.out]; exact Nat.le_refl _)])
      go_wp2_with fail
      go_ret
      exact ⟨by rw [← hz.out]; rfl, hb.out⟩

set_option maxRecDepth 100000 in
set_option maxHeartbeats 1000000 in
theorem rat_c (A : Option Addr) (n cap : Nat) (l : List Val) (c : Int) (w : World) (hA : ManyR Val.cs 6 w A l) (hn : l.length = n) (hm : n ≤ 1000000) :
    Calls Try.prog 19 #[.slice A n cap, .int .i64 c] w fun e w' => e = .returned (.agg (atV l c).cs.toArray) ∧ Below w.heap.size w w' := by
  by_cases h0 : c < 0
  · have hv : Hid (atV l c = zeroV) := if_pos h0
    clear hA hn
    go_enter Try.func19, Try.ntmps19
    go_wp2_with fail
    exact bodyPost_ret (v := .agg zeroV.cs.toArray) (by simp [results, Try.f19, go_sem, zeroV, Val.cs]) rfl ⟨by rw [hv.out], (Below.refl _ _).alloc (Nat.le_refl _) _⟩
  · by_cases h1 : c < n
    · obtain ⟨i, rfl⟩ : ∃ i : Nat, c = i := ⟨c.toNat, by omega⟩
      have hi : i < l.length := by omega
      obtain ⟨b, off, rfl, hlt, hc⟩ := hA (fun e => by rw [e] at hi; simp at hi)
      have hv : Hid (atV l (i : Int) = l[i]) := by
        have e : atV l (i : Int) = l[i] := by unfold atV; rw [if_neg h0]; simp [List.getD, hi]
        exact e
      have g := hc i hi
      clear hc
      generalize l[i] = z at *
      obtain ⟨k, m, ex, t, bb, f⟩ := z
      have c0 := g 0 _ rfl
      have c1 := g 1 _ rfl
      have c2 := g 2 _ rfl
      have c3 := g 3 _ rfl
      have c4 := g 4 _ rfl
      have c5 := g 5 _ rfl
      rw [Nat.add_zero] at c0
      have h0' : (0 : Int) ≤ (i : Int) := by omega
      clear g hn hi hA h0
      go_enter Try.func19, Try.ntmps19
      go_wp2_with fail
      exact bodyPost_ret (v := .agg (Val.cs ⟨k, m, ex, t, bb, f⟩).toArray) (by simp [results, Try.f19, go_sem, Val.cs]) rfl ⟨by rw [hv.out], (Below.refl _ _).alloc (Nat.le_refl _) _⟩
    · have hv : Hid (atV l c = zeroV) := by
        have e : atV l c = zeroV := by unfold atV; rw [if_neg h0]; simp [List.getD, show l.length ≤ c.toNat by omega]
        exact e
      have h1' : decide ((n : Int) ≤ c) = true := decide_eq_true (by omega)
      have h0' : decide (c < 0) = false := decide_eq_false h0
      clear hA hn
      clear h0 h1
      go_enter Try.func19, Try.ntmps19
      go_wp2_with fail
      exact bodyPost_ret (v := .agg zeroV.cs.toArray) (by simp [results, Try.f19, go_sem, zeroV, Val.cs]) rfl ⟨by rw [hv.out], (Below.refl _ _).alloc (Nat.le_refl _) _⟩
end Go.Proofs.Ytifdpcjfjoekmaa
