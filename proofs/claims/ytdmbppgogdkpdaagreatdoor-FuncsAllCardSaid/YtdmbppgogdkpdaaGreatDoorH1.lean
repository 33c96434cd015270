/-
  counterpaneref13.Texts of the same texts. No condition.
-/
import Derived.Test.YtdmbppgogdkpdaaGreatDoorC2
namespace Go.Proofs.YtdmbppgogdkpdaaGreatDoor
open Go.RowKit Go.Maps Go.Sort Go.Shelf
set_option maxRecDepth 100000 in
set_option maxHeartbeats 2000000 in
theorem texts24 (v1 v2 : Value) (L : List (List UInt8)) (w : World) (h1 : StrS w v1 L) (h2 : StrS w v2 L) : Calls Tryz.prog 24 #[v1, v2] w fun e w' => e = .returned (.bool true) ∧ Below w.heap.size w w' := by
  have HS1 := Lib.hid h1
  have HS2 := Lib.hid h2
  obtain ⟨A1, c1, rfl, hm, _⟩ := h1
  obtain ⟨A2, c2, rfl, _, _⟩ := h2
  obtain ⟨n, hn⟩ : ∃ n, L.length = n := ⟨_, rfl⟩
  rw [hn] at hm ⊢
  have HN := Lib.hid hn; clear hn
  have HM := Lib.hid hm; clear hm
  go_enter Tryz.func24, Tryz.ntmps24
  go_wp2_with fail
  go_loopw [5] (fun v wr => ∃ j : Nat, j ≤ n ∧ v = .int .i64 (j : Int) ∧ Hid (Below w.heap.size w wr)) (fun v _ => n - (intOf v).toNat)
  case atStart => exact ⟨0, Nat.zero_le _, rfl, Lib.hid (Below.refl _ _)⟩
  case round =>
    obtain ⟨j, hj, rfl, hb⟩ := hrel
    by_cases hlt : j < n
    · have hjl : j < L.length := by rw [HN.out]; exact hlt
      have hne : L ≠ [] := fun e => by rw [e] at hjl; simp at hjl
      obtain ⟨_, _, e1, _, r1⟩ := HS1.out.keep hb.out
      cases e1
      obtain ⟨_, _, e2, _, r2⟩ := HS2.out.keep hb.out
      cases e2
      obtain ⟨b1, o1, rfl, _, _, k1⟩ := r1 (by simpa using hne)
      obtain ⟨b2, o2, rfl, _, _, k2⟩ := r2 (by simpa using hne)
      have g1 : wr.cell? ⟨b1, o1 + j, none⟩ = some (.string ⟨L[j].toArray⟩) := by have := k1 j (by simpa using hjl); rw [List.getElem_map] at this; exact this
      have g2 : wr.cell? ⟨b2, o2 + j, none⟩ = some (.string ⟨L[j].toArray⟩) := by have := k2 j (by simpa using hjl); rw [List.getElem_map] at this; exact this
      generalize L[j] = x at *
      have hj0 : (0 : Int) ≤ (j : Int) := by omega
      have hjn : (j : Int) < (n : Int) := by omega
      have hm : n ≤ 9223372036854775807 := by have := HM.out; unfold maxLen at this; omega
      have HC : AllCells wr.drew [(⟨b1, o1 + j, none⟩, .string ⟨x.toArray⟩), (⟨b2, o2 + j, none⟩, .string ⟨x.toArray⟩)] := ⟨g1, g2, trivial⟩
      clear g1 g2 k1 k2 r1 r2 hne hjl
      go_wp2_with fail
      refine region_free _ [0, 1, 2, 3, 4, 5, 6, 7, 8] 0 (by kernel_rfl) (by kernel_rfl) (by kernel_rfl) (by kernel_rfl) (by kernel_rfl) (fun _ _ _ _ _ h => h) HC ?_
      intro hne hu
      simp only [AllCells] at hu
      simp only [pick, List.take_succ_cons, List.take_zero, List.drop_succ_cons, List.drop_zero, List.cons_append, List.nil_append]
      repeat (go_big_quiet_step (fail))
      refine wpQuiet_nil ?_
      clear hne hu
      refine ⟨by kernel_rfl, ?_⟩
      clear HC
      go_wp2_with fail
      refine ⟨⟨j + 1, by omega, rfl, Lib.hid hb.out.drew⟩, by simp [intOf]; omega⟩
    · have hjn : j = n := by omega
      subst hjn
      go_wp2_with fail
      go_ret
      exact ⟨rfl, hb.out⟩
end Go.Proofs.YtdmbppgogdkpdaaGreatDoor
