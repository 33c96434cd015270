/-
  AxisPutsSaid, proved: for every input the law returns true, and each argument reads afterwards as it read before. No condition.
-/
import Derived.Test.YtgmlhpkhecbkoaaK2
import Derived.Test.YtgmlhpkhecbkoaaK3
import Derived.Test.YtgmlhpkhecbkoaaE1
namespace Go.Proofs.Ytgmlhpkhecbkoaa
open Go.RowKit Go.ChangeShapes Go.WideShapes Go.ChangeAt Go.Joins Go.Deep

set_option maxRecDepth 100000 in
set_option maxHeartbeats 4000000 in
theorem puts_many (A : Option Addr) (n c : Nat) (b1 b2 x y : Int) (w : World) (h100 : 100 < n) :
    Calls Try.prog 10 #[.slice A n c, .agg #[.int .i64 b1, .int .i64 b2], .agg #[.int .i64 x, .int .i64 y]] w fun e w' => e = .returned (.bool true) ∧ Below w.heap.size w w' := by
  go_enter Try.func10, Try.ntmps10
  go_wp2_with fail
  have k0 := ((Clean.start w).alloc (.cells #[.int .i64 b1, .int .i64 b2] 24)).alloc (.cells #[.int .i64 x, .int .i64 y] 24)
  refine (awake_c _).mono ?_
  rintro e w1 ⟨rfl, hB⟩
  have K1 := Lib.hid (k0.next hB)
  clear k0 hB
  go_wp2_with fail
  go_ret
  exact ⟨rfl, K1.out.below⟩
theorem puts_any (A : Option Addr) (n c : Nat) (ids : List Id) (b1 b2 x y : Int) (w : World) (hR : IdsR w (fun _ => 0) 0 A ids) (hn : ids.length = n) :
    Calls Try.prog 10 #[.slice A n c, .agg #[.int .i64 b1, .int .i64 b2], .agg #[.int .i64 x, .int .i64 y]] w fun e w' => e = .returned (.bool true) ∧ Below w.heap.size w w' := by
  by_cases h100 : n ≤ 100
  · by_cases hr : insR (newL ids) (b1, b2) (x, y) = 0
    · by_cases hb : (b1, b2) = (0, 0)
      · exact puts_zero A n c ids b1 b2 x y w hR hn h100 hr hb
      · exact puts_in A n c ids b1 b2 x y w hR hn h100 hr hb
    · exact puts_bad A n c ids b1 b2 x y w hR hn h100 hr
  · exact puts_many A n c b1 b2 x y w (by omega)

set_option maxRecDepth 100000 in
theorem axisPuts_lifted (os : Os) (started : os.Started) (H : Type) (enc : TypeId × Value → H) :
    ReturnsInHanded {} Try.checked os 10 .any (Rows.axisPutsSpec.pre6 enc Try.prog Try.f10 Rows.axisPutsRow.domain false) (Rows.axisPutsSpec.post enc Try.prog Try.f10 false true false false) := by
  refine returnsInHanded_of_change (C := Try.checked) Try.own started (by kernel_rfl) Try.func10
    (ChangeSpec.witness6 (enc := enc) (C := Try.checked) false ⟨#[], #[.slice none 0 0, .agg #[.int .i64 0, .int .i64 0], .agg #[.int .i64 0, .int .i64 0]], []⟩ 8 (by kernel_rfl) (by kernel_rfl) (by kernel_rfl) (by kernel_rfl)) ?_
  intro W base args ds gs before hval0 hW _ _
  have hval : ∀ (j : Nat) t v, Try.f10.params[j]? = some t → args[j]? = some v → Value.okWide Try.prog W .any base t v := hval0
  have hW' := hW
  obtain ⟨p, q, hA0, hV, rfl, hfz, hnd⟩ := hW
  have hA : DataW.TrodAll enc Try.prog W 0 (fun _ => true) true Try.f10.params.toList args.toList ds p := hA0
  rw [Try.params10] at hA hval
  obtain ⟨v0, v1, v2, d0, d1, d2, p0, p1, p2, rfl, rfl, rfl, h0, h1, h2⟩ := trodAll_three hA
  obtain ⟨rfl, rfl⟩ := trodVars_none hV
  clear hA0 hval0
  simp only [List.append_nil] at hW'
  have hlt : ∀ x ∈ p0 ++ p1 ++ p2, x.block < W.heap.size := fun x hx => by simpa using hW'.lt x hx
  obtain ⟨A, n, c, ids, rfl, hn, _, hR, _⟩ := open_ids (hval 0 22 v0 rfl rfl) h0
  obtain ⟨b1, b2, rfl, _, _⟩ := open_id (hval 1 24 v1 rfl rfl) h1
  obtain ⟨x, y, rfl, _, _⟩ := open_id (hval 2 24 v2 rfl rfl) h2
  refine (puts_any A n c ids b1 b2 x y W hR hn).mono fun e W' ⟨he, hnx⟩ => ?_
  subst he
  refine ⟨_, rfl, _, _, _, [], p0 ++ p1 ++ p2, [], hW', ?_, ?_, rfl, hnx.frame _, fun h => by cases h⟩
  · exact trodAll_mk1 (shut_bool Try.underlying4 true)
  · rw [List.append_assoc]
    exact trodAll_mk3 (Below.trod Try.laidOut (by kernel_rfl) (of_decide_eq_true (by kernel_rfl)) h0 hnx (fun x hx => hlt x (by simp [hx])))
      (Below.trod Try.laidOut (by kernel_rfl) (of_decide_eq_true (by kernel_rfl)) h1 hnx (fun x hx => hlt x (by simp [hx])))
      (Below.trod Try.laidOut (by kernel_rfl) (of_decide_eq_true (by kernel_rfl)) h2 hnx (fun x hx => hlt x (by simp [hx])))

theorem axisPuts_holds : Rows.AxisPutsSaid :=
  OpenClaim.holds_of_wide 10 Try.f10 rfl rfl rfl rfl rfl rfl rfl ⟨rfl, rfl, rfl, rfl, rfl⟩ rfl rfl rfl rfl rfl (by kernel_rfl) Try.func10 (by kernel_rfl)
    (of_decide_eq_true (by kernel_rfl)) (by unfold Func.isWrapper; first | (rw [if_pos (by decide +kernel)]; kernel_rfl) | (rw [if_neg (by decide +kernel)]; exact ⟨rfl, rfl⟩))
    (fun os started H enc _ => axisPuts_lifted os started H enc)
end Go.Proofs.Ytgmlhpkhecbkoaa
