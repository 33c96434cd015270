/-
  AxisCloneSaid, proved: for every input the law returns true, and each argument reads afterwards as it read before. No condition.
-/
import Derived.Test.YtgmlhpkhecbkoaaP3
namespace Go.Proofs.Ytgmlhpkhecbkoaa
open Go.RowKit Go.ChangeShapes Go.WideShapes Go.ChangeAt Go.Joins Go.Deep

set_option maxRecDepth 100000 in
set_option maxHeartbeats 4000000 in
theorem clonel_many (A D : Option Addr) (n c m d : Nat) (x y : Int) (w : World) (h : 100 < n ∨ 60 < m) :
    Calls Try.prog 12 #[.slice A n c, .slice D m d, .agg #[.int .i64 x, .int .i64 y]] w fun e w' => e = .returned (.bool true) ∧ Below w.heap.size w w' := by
  have hb : (decide (100 < (n : Int)) || decide (60 < (m : Int))) = true := by simp; omega
  go_enter Try.func12, Try.ntmps12
  go_wp2_with fail
  have k0 := (Clean.start w).alloc (.cells #[.int .i64 x, .int .i64 y] 24)
  refine (awake_c _).mono ?_
  rintro e w1 ⟨rfl, hB⟩
  have K1 := Lib.hid (k0.next hB)
  clear k0 hB
  by_cases h1 : 100 < n
  · have h2 : (100 : Int) < (n : Int) := by omega
    clear h hb h1
    go_wp2_with fail
    go_ret
    exact ⟨rfl, K1.out.below⟩
  · have h2 : ¬ (100 : Int) < (n : Int) := by omega
    have h3 : (60 : Int) < (m : Int) := by omega
    clear h hb h1
    go_wp2_with fail
    go_ret
    exact ⟨rfl, K1.out.below⟩
theorem clonel_any (A D : Option Addr) (n c m d : Nat) (ids0 : List Id) (ds : List Deed) (x y : Int) (w : World) (hR : IdsR w (fun _ => 0) 0 A ids0) (hn : ids0.length = n) (hD : ManyR deedCells 5 w (fun _ => 0) 0 D ds) (hm : ds.length = m) :
    Calls Try.prog 12 #[.slice A n c, .slice D m d, .agg #[.int .i64 x, .int .i64 y]] w fun e w' => e = .returned (.bool true) ∧ Below w.heap.size w w' := by
  by_cases h100 : n ≤ 100
  · by_cases h60 : m ≤ 60
    · exact clone_few A D n c m d ids0 ds x y w hR hn hD hm h100 h60
    · exact clonel_many A D n c m d x y w (.inr (by omega))
  · exact clonel_many A D n c m d x y w (.inl (by omega))

set_option maxRecDepth 100000 in
theorem axisClone_lifted (os : Os) (started : os.Started) (H : Type) (enc : TypeId × Value → H) :
    ReturnsInHanded {} Try.checked os 12 .any (Rows.axisCloneSpec.pre6 enc Try.prog Try.f12 Rows.axisCloneRow.domain false) (Rows.axisCloneSpec.post enc Try.prog Try.f12 false true false false) := by
  refine returnsInHanded_of_change (C := Try.checked) Try.own started (by kernel_rfl) Try.func12
    (ChangeSpec.witness6 (enc := enc) (C := Try.checked) false ⟨#[], #[.slice none 0 0, .slice none 0 0, .agg #[.int .i64 0, .int .i64 0]], []⟩ 8 (by kernel_rfl) (by kernel_rfl) (by kernel_rfl) (by kernel_rfl)) ?_
  intro W base args ds gs before hval0 hW _ _
  have hval : ∀ (j : Nat) t v, Try.f12.params[j]? = some t → args[j]? = some v → Value.okWide Try.prog W .any base t v := hval0
  have hW' := hW
  obtain ⟨p, q, hA0, hV, rfl, hfz, hnd⟩ := hW
  have hA : DataW.TrodAll enc Try.prog W 0 (fun _ => true) true Try.f12.params.toList args.toList ds p := hA0
  rw [Try.params12] at hA hval
  obtain ⟨v0, v1, v2, d0, d1, d2, p0, p1, p2, rfl, rfl, rfl, h0, h1, h2⟩ := trodAll_three hA
  obtain ⟨rfl, rfl⟩ := trodVars_none hV
  clear hA0 hval0
  simp only [List.append_nil] at hW'
  have hlt : ∀ x ∈ p0 ++ p1 ++ p2, x.block < W.heap.size := fun x hx => by simpa using hW'.lt x hx
  obtain ⟨A, n, c, ids, rfl, hn, _, hR, _⟩ := open_ids (hval 0 22 v0 rfl rfl) h0
  obtain ⟨D, m, d, ds, rfl, hm, _, hD, _⟩ := open_deeds (hval 1 57 v1 rfl rfl) h1
  obtain ⟨x, y, rfl, _, _⟩ := open_id (hval 2 24 v2 rfl rfl) h2
  refine (clonel_any A D n c m d ids ds x y W hR hn hD hm).mono fun e W' ⟨he, hnx⟩ => ?_
  subst he
  refine ⟨_, rfl, _, _, _, [], p0 ++ p1 ++ p2, [], hW', ?_, ?_, rfl, hnx.frame _, fun h => by cases h⟩
  · exact trodAll_mk1 (shut_bool Try.underlying4 true)
  · rw [List.append_assoc]
    exact trodAll_mk3 (Below.trod Try.laidOut (by kernel_rfl) (of_decide_eq_true (by kernel_rfl)) h0 hnx (fun x hx => hlt x (by simp [hx])))
      (Below.trod Try.laidOut (by kernel_rfl) (of_decide_eq_true (by kernel_rfl)) h1 hnx (fun x hx => hlt x (by simp [hx])))
      (Below.trod Try.laidOut (by kernel_rfl) (of_decide_eq_true (by kernel_rfl)) h2 hnx (fun x hx => hlt x (by simp [hx])))

theorem axisClone_holds : Rows.AxisCloneSaid :=
  OpenClaim.holds_of_wide 12 Try.f12 rfl rfl rfl rfl rfl rfl rfl ⟨rfl, rfl, rfl, rfl, rfl⟩ rfl rfl rfl rfl rfl (by kernel_rfl) Try.func12 (by kernel_rfl)
    (of_decide_eq_true (by kernel_rfl)) (by unfold Func.isWrapper; first | (rw [if_pos (by decide +kernel)]; kernel_rfl) | (rw [if_neg (by decide +kernel)]; exact ⟨rfl, rfl⟩))
    (fun os started H enc _ => axisClone_lifted os started H enc)
end Go.Proofs.Ytgmlhpkhecbkoaa
