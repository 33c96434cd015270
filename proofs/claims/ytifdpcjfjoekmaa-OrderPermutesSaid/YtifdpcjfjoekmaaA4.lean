/-
  Package value: truthOrder, Fold; strings.Compare: their contracts. Condition: a string has at most 2^63 - 1 bytes.
-/
import Derived.Test.YtifdpcjfjoekmaaA1
import Derived.Laws.IdiomStrings
namespace Go.Proofs.Ytifdpcjfjoekmaa
open Go.RowKit

theorem cmpstr_c (a b : ByteArray) (w : World) :
    Calls Try.prog 39 #[.string a, .string b] w fun e w' => e = .returned (.int .i64 (Lib.compareBytes a.data.toList b.data.toList)) ∧ w = w' := by
  have h48 : ∀ w, Calls Try.prog 48 #[.string a, .string b] w fun e w' => e = .returned (.int .i64 (Lib.compareBytes a.data.toList b.data.toList)) ∧ w = w' := by
    intro w
    go_enter Try.func48, Try.ntmps48
    go_wp2
    rw [run_callFunc_extern Try.func54 (by kernel_rfl) (by kernel_rfl) (by kernel_rfl) (e := Extern.BytealgCompare.compare) (by kernel_rfl), Lib.run_compareString]
    simp only [Result.andThen]
    rw [Oper.upon_value]
    go_wp2
    go_ret
    exact ⟨rfl, rfl⟩
  go_enter Try.func39, Try.ntmps39
  go_wp2_with (go_at_call 48; refine (h48 _).mono ?_; rintro e w' ⟨rfl, rfl⟩)
  go_ret
  exact ⟨rfl, rfl⟩

def truthR (a b : Bool) : Int := if a = b then 0 else if b then -1 else 1
set_option maxHeartbeats 1000000 in
theorem truth_c (a b : Bool) (w : World) : Calls Try.prog 41 #[.bool a, .bool b] w fun e w' => e = .returned (.int .i64 (truthR a b)) ∧ w = w' := by
  cases a <;> cases b
  all_goals
    go_enter Try.func41, Try.ntmps41
    go_wp2
    go_ret
    exact ⟨rfl, rfl⟩

def low (c : UInt8) : Bool := decide (97 ≤ c.toNat) && decide (c.toNat ≤ 122)
def up (c : UInt8) : UInt8 := if low c then c - 32 else c
theorem up_low {c : UInt8} (h1 : 97 ≤ c.toNat) (h2 : c.toNat ≤ 122) : ((up c).toNat : Int) = (c.toNat : Int) - 97 + 65 := by
  unfold up low
  rw [decide_eq_true h1, decide_eq_true h2]
  simp only [Bool.and_self, if_true]
  rw [UInt8.toNat_sub_of_le _ _ (by rw [UInt8.le_iff_toNat_le]; show 32 ≤ c.toNat; omega)]
  show ((c.toNat - 32 : Nat) : Int) = _
  omega
theorem up_not {c : UInt8} (h : low c = false) : up c = c := by unfold up; rw [h]; rfl
def foldB (s : ByteArray) : ByteArray := ⟨(s.data.toList.map up).toArray⟩
theorem foldB_same (s : ByteArray) (h : ∀ c ∈ s.data.toList, low c = false) : foldB s = s := by
  unfold foldB
  have : s.data.toList.map up = s.data.toList := by
    conv => rhs; rw [← List.map_id s.data.toList]
    exact List.map_congr_left fun c hc => up_not (h c hc)
  rw [this]

/-- The bytes, the first k of them turned. -/
structure FB (w W : World) (B : Nat) (l : List UInt8) (k : Nat) : Prop where
  below : Below w.heap.size w W
  hB : w.heap.size ≤ B
  lt : B < W.heap.size
  cell : ∀ j (h : j < l.length), W.cell? ⟨B, j, none⟩ = some (.int .u8 (((if j < k then up l[j] else l[j]) : UInt8).toNat : Int))
  froz : ∀ j, j < l.length → W.frozen? ⟨B, j, none⟩ = false
theorem FB.put {w W : World} {B k : Nat} {l : List UInt8} (h : FB w W B l k) (hk : k < l.length) {n : Int} (hn : n = ((up l[k]).toNat : Int)) : FB w (W.setCell ⟨B, k, none⟩ (.int .u8 n)) B l (k + 1) := by
  refine ⟨h.below.setCell h.hB _, h.hB, by simpa using h.lt, fun j hj => ?_, fun j hj => ?_⟩
  · by_cases e : j = k
    · subst e
      rw [World.cell?_setCell_same' W ⟨B, j, none⟩ _ (by rw [h.cell j hj]; rfl), if_pos (by omega), hn]
    · rw [World.cell?_setCell_other _ _ _ _ (by intro hh; cases hh; exact e rfl), h.cell j hj]
      by_cases hjk : j < k
      · rw [if_pos hjk, if_pos (by omega)]
      · rw [if_neg hjk, if_neg (by omega)]
  · rw [World.frozen?_setCell]; exact h.froz j hj
theorem FB.pass {w W : World} {B k : Nat} {l : List UInt8} (h : FB w W B l k) (hk : k < l.length) (hn : low l[k] = false) : FB w W B l (k + 1) := by
  refine ⟨h.below, h.hB, h.lt, fun j hj => ?_, h.froz⟩
  rw [h.cell j hj]
  by_cases e : j = k
  · subst e
    rw [if_neg (by omega), if_pos (by omega), up_not hn]
  · by_cases hjk : j < k
    · rw [if_pos hjk, if_pos (by omega)]
    · rw [if_neg hjk, if_neg (by omega)]

set_option maxRecDepth 100000 in
set_option maxHeartbeats 4000000 in
theorem folded_c (s : ByteArray) (hs : s.size ≤ 1000000) (w : World) :
    Calls Try.prog 49 #[.string s] w fun e w' => e = .returned (.string (foldB s)) ∧ Below w.heap.size w w' := by
  have hc := run_bytes_of_string (P := Try.prog) w 9 64 5 s Try.underlying9 Try.underlying64 Try.underlying5
  obtain ⟨cap, hcap⟩ : ∃ c, grownCap w s.size 0 5 = c := ⟨_, rfl⟩
  rw [hcap] at hc
  obtain ⟨V, hV⟩ : ∃ V, w.drew.alloc (.cells (bytesRow s cap) 5 ((bytesRow s cap).size, (bytesRow s cap).size + 1)) = V := ⟨_, rfl⟩
  rw [hV] at hc
  have hl : s.data.toList.length = s.size := Array.length_toList
  have h0 : Hid (FB w V w.heap.size s.data.toList 0) := by
    have hbr : ∀ j, j < s.data.toList.length → j < (bytesRow s cap).size := fun j hj => by
      have : (bytesRow s cap).size = s.data.size + (cap - s.size) := by unfold bytesRow; rw [Array.size_append, Array.size_map, Array.size_replicate]
      have h2 : s.data.toList.length = s.data.size := Array.length_toList
      omega
    have hbl : Below w.heap.size w V := by rw [← hV]; exact ((Below.refl _ w).drew).alloc (Nat.le_refl _) _
    refine ⟨hbl, Nat.le_refl _, by rw [← hV, World.size_alloc]; exact Nat.lt_succ_self _, fun j hj => ?_, fun j hj => ?_⟩
    · rw [← hV]
      have := World.cell?_alloc_mark w.drew (bytesRow s cap) 5 ((bytesRow s cap).size, (bytesRow s cap).size + 1) j
      rw [show w.drew.heap.size = w.heap.size from rfl] at this
      rw [this, bytesRow_at s cap j (by simpa using hj), if_neg (by omega)]
      simp
    · rw [← hV]
      have := World.frozen?_alloc_mark w.drew (bytesRow s cap) 5 (bytesRow s cap).size ((bytesRow s cap).size + 1) j
      rw [show w.drew.heap.size = w.heap.size from rfl] at this
      rw [this]
      have := hbr j hj
      simp
      omega
  have HL := Lib.hid hl
  clear hcap hV hl
  go_enter Try.func49, Try.ntmps49
  go_wp2
  go_loopw [10] (fun i wr => ∃ k : Nat, k ≤ s.size ∧ i = .int .i64 k ∧ Hid (FB w wr w.heap.size s.data.toList k)) (fun i _ => s.size - (intOf i).toNat)
  case atStart => exact ⟨0, Nat.zero_le _, rfl, h0.out⟩
  case round =>
    obtain ⟨k, hk, rfl, hF⟩ := hrel
    clear h0 hc
    by_cases hlt : k < s.size
    · have hkl : k < s.data.toList.length := by rw [HL.out]; exact hlt
      have c0 := hF.out.cell k hkl
      rw [if_neg (by omega)] at c0
      have f0 := hF.out.froz k hkl
      have lB := hF.out.lt
      have hk0 : (0 : Int) ≤ (k : Int) := by omega
      have hkn : (k : Int) < (s.size : Int) := by omega
      have HP := Lib.hid (fun n hn => hF.out.put hkl (n := n) hn)
      have HN := Lib.hid (fun hn => hF.out.pass hkl hn)
      have HU : Hid (97 ≤ (s.data.toList[k]).toNat → (s.data.toList[k]).toNat ≤ 122 → ((up s.data.toList[k]).toNat : Int) = ((s.data.toList[k]).toNat : Int) - 97 + 65) := up_low
      have HLo : Hid (¬ (97 ≤ (s.data.toList[k]).toNat ∧ (s.data.toList[k]).toNat ≤ 122) → low s.data.toList[k] = false) := fun h => by
        unfold low
        rw [Bool.and_eq_false_iff, decide_eq_false_iff_not, decide_eq_false_iff_not]
        omega
      generalize s.data.toList[k] = c at *
      have hc255 : (c.toNat : Int) ≤ 255 := by have := c.toNat_lt; omega
      have hc0 : (0 : Int) ≤ (c.toNat : Int) := by omega
      by_cases h1 : 97 ≤ c.toNat
      · have h1' : decide ((97 : Int) ≤ (c.toNat : Int)) = true := decide_eq_true (by omega)
        by_cases h2 : c.toNat ≤ 122
        · have h2' : decide ((c.toNat : Int) ≤ (122 : Int)) = true := decide_eq_true (by omega)
          have hb1 : (97 : Int) ≤ (c.toNat : Int) := by omega
          have hb2 : (c.toNat : Int) ≤ 122 := by omega
          go_wp2
          go_roundw
          case rel => exact ⟨k + 1, by omega, by go_num, HP.out _ (HU.out h1 h2).symm⟩
          case measure => simp [intOf]; omega
        · have h2' : decide ((c.toNat : Int) ≤ (122 : Int)) = false := decide_eq_false (by omega)
          go_wp2
          go_roundw
          case rel => exact ⟨k + 1, by omega, by go_num, HN.out (HLo.out (by omega))⟩
          case measure => simp [intOf]; omega
      · have h1' : decide ((97 : Int) ≤ (c.toNat : Int)) = false := decide_eq_false (by omega)
        go_wp2
        go_roundw
        case rel => exact ⟨k + 1, by omega, by go_num, HN.out (HLo.out (by omega))⟩
        case measure => simp [intOf]; omega
    · have hkk : k = s.size := by omega
      subst hkk
      have hkn : ¬ ((s.size : Int) < (s.size : Int)) := by omega
      have hb := Lib.hid (run_convert_bytes_back (P := Try.prog) wr 64 9 5 ⟨w.heap.size, 0, none⟩ cap (s.data.toList.map up) Try.underlying64 Try.underlying5 Try.underlying9 (fun j hj => by
        have hj' : j < s.data.toList.length := by simpa using hj
        have := hF.out.cell j hj'
        rw [if_pos (by have := HL.out; omega)] at this
        rw [Addr.add]
        have e : (if j = 0 then (⟨w.heap.size, 0, none⟩ : Addr) else ⟨w.heap.size, 0 + j, none⟩) = ⟨w.heap.size, j, none⟩ := by split <;> simp_all
        show wr.cell? (if j = 0 then (⟨w.heap.size, 0, none⟩ : Addr) else ⟨w.heap.size, 0 + j, none⟩) = _
        rw [e, this, List.getElem_map]))
      have hb' := hb.out
      rw [List.length_map, HL.out] at hb'
      clear hb
      go_wp2
      go_ret
      exact ⟨rfl, hF.out.below⟩

set_option maxRecDepth 100000 in
set_option maxHeartbeats 4000000 in
theorem fold_c (s : ByteArray) (hs : s.size ≤ 1000000) (w : World) :
    Calls Try.prog 40 #[.string s] w fun e w' => e = .returned (.string (foldB s)) ∧ Below w.heap.size w w' := by
  have hl := Lib.hid (show s.data.toList.length = s.size by rw [Array.length_toList]; rfl)
  go_enter Try.func40, Try.ntmps40
  go_wp2
  go_loop [6] (fun i => ∃ k : Nat, k ≤ s.size ∧ i = .int .i64 k ∧ Hid (∀ j (h : j < s.data.toList.length), j < k → low s.data.toList[j] = false)) (fun i => s.size - (intOf i).toNat)
  case atStart => exact ⟨0, Nat.zero_le _, rfl, fun j _ h => absurd h (by omega)⟩
  case round =>
    obtain ⟨k, hk, rfl, hN⟩ := hrel
    by_cases hlt : k < s.size
    · have hkl : k < s.data.toList.length := by rw [hl.out]; exact hlt
      have hk0 : (0 : Int) ≤ (k : Int) := by omega
      have hkn : (k : Int) < (s.size : Int) := by omega
      have hsk : Hid (s[k] = s.data.toList[k]) := by simp [Hid]; rfl
      have HS : Hid (low s[k] = false → ∀ j (h : j < s.data.toList.length), j < k + 1 → low s.data.toList[j] = false) := fun hc j hj hjk => by
        by_cases e : j = k
        · subst e; rw [← hsk.out]; exact hc
        · exact hN.out j hj (by omega)
      have HLo : Hid (¬ (97 ≤ (s[k]).toNat ∧ (s[k]).toNat ≤ 122) → low s[k] = false) := fun h => by
        unfold low
        rw [Bool.and_eq_false_iff, decide_eq_false_iff_not, decide_eq_false_iff_not]
        omega
      by_cases h1 : 97 ≤ (s[k]).toNat
      · have h1' : decide ((97 : Int) ≤ ((s[k]).toNat : Int)) = true := decide_eq_true (by omega)
        by_cases h2 : (s[k]).toNat ≤ 122
        · have h2' : decide (((s[k]).toNat : Int) ≤ (122 : Int)) = true := decide_eq_true (by omega)
          clear hN hl hsk HS HLo
          go_wp2_with (go_at_call 49; refine (folded_c s hs _).mono ?_; rintro e w' ⟨rfl, hb⟩)
          go_ret
          exact ⟨rfl, hb⟩
        · have h2' : decide (((s[k]).toNat : Int) ≤ (122 : Int)) = false := decide_eq_false (by omega)
          have hz := Lib.hid (HS.out (HLo.out (by omega)))
          go_wp2_with fail
          go_round
          case rel => exact ⟨k + 1, by omega, by go_num, hz.out⟩
          case measure => simp [intOf]; omega
      · have h1' : decide ((97 : Int) ≤ ((s[k]).toNat : Int)) = false := decide_eq_false (by omega)
        have hz := Lib.hid (HS.out (HLo.out (by omega)))
        go_wp2_with fail
        go_round
        case rel => exact ⟨k + 1, by omega, by go_num, hz.out⟩
        case measure => simp [intOf]; omega
    · have hkn : ¬ ((k : Int) < (s.size : Int)) := by omega
      have hz := Lib.hid (foldB_same s (fun c hc => by
        obtain ⟨j, hj, rfl⟩ := List.mem_iff_getElem.1 hc
        exact hN.out j hj (by have := hl.out; omega)))
      clear hN hl
      go_wp2_with fail
      go_ret
      exact ⟨by rw [hz.out]; rfl, Below.refl _ _⟩
end Go.Proofs.Ytifdpcjfjoekmaa
