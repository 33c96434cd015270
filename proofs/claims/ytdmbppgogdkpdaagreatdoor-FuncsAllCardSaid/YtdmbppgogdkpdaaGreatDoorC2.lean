/-
  Whether a list of strings holds one: slices.Index, slices.Contains, the reference's 'in'. No condition.
-/
import Derived.Test.YtdmbppgogdkpdaaGreatDoorC1
namespace Go.Proofs.YtdmbppgogdkpdaaGreatDoor
open Go.RowKit Go.Maps Go.Sort Go.Shelf
def intOf : Value → Int
  | .int _ i => i
  | _ => 0
theorem isIn_none {s : List UInt8} {L : List (List UInt8)} (h : ∀ x ∈ L, s ≠ x) : isIn s L = false := by
  cases e : isIn s L
  · rfl
  · exact absurd rfl (h _ (isIn_mem.1 e))
set_option maxRecDepth 100000 in
set_option maxHeartbeats 2000000 in
theorem index57 (v : Value) (L : List (List UInt8)) (s : ByteArray) (w : World) (h : StrS w v L) : Calls Tryz.prog 57 #[v, .string s] w fun e w' => (∃ k : Int, e = .returned (.int .i64 k) ∧ (decide (0 ≤ k) = isIn s.toList L)) ∧ w' = w := by
  obtain ⟨A, c, rfl, hm, hr⟩ := h
  obtain ⟨n, hn⟩ : ∃ n, L.length = n := ⟨_, rfl⟩
  rw [hn] at hm ⊢
  have HN := Lib.hid hn; clear hn
  have HM := Lib.hid hm; clear hm
  have HR := Lib.hid hr; clear hr
  go_enter Tryz.func57, Tryz.ntmps57
  go_wp2_with fail
  go_loopw [8] (fun v wr => ∃ j : Nat, j ≤ n ∧ v = .int .i64 (j : Int) ∧ wr = w ∧ Hid (∀ x ∈ L.take j, s.toList ≠ x)) (fun v _ => n - (intOf v).toNat)
  case atStart => exact ⟨0, Nat.zero_le _, rfl, rfl, Lib.hid (by simp)⟩
  case round =>
    obtain ⟨j, hj, rfl, rfl, hx⟩ := hrel
    by_cases hlt : j < n
    · have hjl : j < L.length := by rw [HN.out]; exact hlt
      obtain ⟨b, off, rfl, _, _, hc⟩ := HR.out (fun e => by rw [List.map_eq_nil_iff] at e; rw [e] at hjl; simp at hjl)
      have g : wr.cell? ⟨b, off + j, none⟩ = some (.string ⟨L[j].toArray⟩) := by have := hc j (by simpa using hjl); rw [List.getElem_map] at this; exact this
      clear hc
      have hmem := Lib.hid (List.getElem_mem hjl)
      have htk := Lib.hid (show L.take (j + 1) = L.take j ++ [L[j]] from by rw [List.take_succ_eq_append_getElem hjl])
      generalize L[j] = x at *
      have hj0 : (0 : Int) ≤ (j : Int) := by omega
      have hjn : (j : Int) < (n : Int) := by omega
      have hm : n ≤ 9223372036854775807 := by have := HM.out; unfold maxLen at this; omega
      by_cases hs : s.toList = x
      · go_wp2_with fail
        go_ret
        exact ⟨⟨j, rfl, by rw [show isIn x L = true from isIn_mem.2 hmem.out]; simp⟩, rfl⟩
      · go_wp2_with fail
        · exfalso; simp_all
        · refine ⟨⟨j + 1, by omega, rfl, trivial, Lib.hid ?_⟩, by simp [intOf]; omega⟩
          rw [htk.out]
          intro y hy
          rcases List.mem_append.1 hy with hy | hy
          · exact hx.out y hy
          · rw [List.mem_singleton.1 hy]; exact hs
    · have hjn : j = n := by omega
      subst hjn
      go_wp2_with fail
      go_ret
      refine ⟨⟨-1, rfl, ?_⟩, rfl⟩
      rw [isIn_none (fun y hy => hx.out y (by rw [List.take_of_length_le (Nat.le_of_eq HN.out)]; exact hy))]
      rfl
theorem contains27 (v : Value) (L : List (List UInt8)) (s : ByteArray) (w : World) (h : StrS w v L) : Calls Tryz.prog 27 #[v, .string s] w fun e w' => e = .returned (.bool (isIn s.toList L)) ∧ w' = w := by
  have H := Lib.hid h
  obtain ⟨A, c, rfl, _, _⟩ := h
  go_enter Tryz.func27, Tryz.ntmps27
  go_wp2_with fail
  refine Calls.mono (index57 _ L s w H.out) ?_
  rintro _ w1 ⟨⟨k, rfl, hk⟩, rfl⟩
  go_wp2_with fail
  go_ret
  simp [← hk]
set_option maxRecDepth 100000 in
set_option maxHeartbeats 2000000 in
theorem in28 (v : Value) (L : List (List UInt8)) (s : ByteArray) (w : World) (h : StrS w v L) : Calls Tryz.prog 28 #[.string s, v] w fun e w' => e = .returned (.bool (isIn s.toList L)) ∧ w' = w := by
  obtain ⟨A, c, rfl, hm, hr⟩ := h
  obtain ⟨n, hn⟩ : ∃ n, L.length = n := ⟨_, rfl⟩
  rw [hn] at hm ⊢
  have HN := Lib.hid hn; clear hn
  have HM := Lib.hid hm; clear hm
  have HR := Lib.hid hr; clear hr
  go_enter Tryz.func28, Tryz.ntmps28
  go_wp2_with fail
  go_loopw [5] (fun v wr => ∃ j : Nat, j ≤ n ∧ v = .int .i64 (j : Int) ∧ wr = w ∧ Hid (∀ x ∈ L.take j, s.toList ≠ x)) (fun v _ => n - (intOf v).toNat)
  case atStart => exact ⟨0, Nat.zero_le _, rfl, rfl, Lib.hid (by simp)⟩
  case round =>
    obtain ⟨j, hj, rfl, rfl, hx⟩ := hrel
    by_cases hlt : j < n
    · have hjl : j < L.length := by rw [HN.out]; exact hlt
      obtain ⟨b, off, rfl, _, _, hc⟩ := HR.out (fun e => by rw [List.map_eq_nil_iff] at e; rw [e] at hjl; simp at hjl)
      have g : wr.cell? ⟨b, off + j, none⟩ = some (.string ⟨L[j].toArray⟩) := by have := hc j (by simpa using hjl); rw [List.getElem_map] at this; exact this
      clear hc
      have hmem := Lib.hid (List.getElem_mem hjl)
      have htk := Lib.hid (show L.take (j + 1) = L.take j ++ [L[j]] from by rw [List.take_succ_eq_append_getElem hjl])
      generalize L[j] = x at *
      have hj0 : (0 : Int) ≤ (j : Int) := by omega
      have hjn : (j : Int) < (n : Int) := by omega
      have hm : n ≤ 9223372036854775807 := by have := HM.out; unfold maxLen at this; omega
      by_cases hs : s.toList = x
      · go_wp2_with fail
        go_ret
        rw [show isIn x L = true from isIn_mem.2 hmem.out]
        exact ⟨rfl, rfl⟩
      · go_wp2_with fail
        · exfalso; simp_all
        · refine ⟨⟨j + 1, by omega, rfl, trivial, Lib.hid ?_⟩, by simp [intOf]; omega⟩
          rw [htk.out]
          intro y hy
          rcases List.mem_append.1 hy with hy | hy
          · exact hx.out y hy
          · rw [List.mem_singleton.1 hy]; exact hs
    · have hjn : j = n := by omega
      subst hjn
      go_wp2_with fail
      go_ret
      rw [isIn_none (fun y hy => hx.out y (by rw [List.take_of_length_le (Nat.le_of_eq HN.out)]; exact hy))]
      exact ⟨rfl, rfl⟩
end Go.Proofs.YtdmbppgogdkpdaaGreatDoor
