/-
  AxisPlaysSaid, proved: for every input the law returns true, and each argument reads afterwards as it read before. No condition.
-/
import Derived.Test.YtgmlhpkhecbkoaaN9
namespace Go.Proofs.Ytgmlhpkhecbkoaa
open Go.RowKit Go.ChangeShapes Go.WideShapes Go.ChangeAt Go.Joins Go.Deep

set_option maxRecDepth 100000 in
theorem open_i64 {H : Type} {enc : TypeId × Value → H} {w : World} {base : Nat} {spare : Nat → Bool} {held : Bool} {r : Reach} {b0 : Nat} {v : Value} {d : DataW H} {p : List MemPlace} (hv : Value.okWide Try.prog w r b0 3 v) (h : DataW.Trod enc Try.prog w base spare held 3 v d p) :
    ∃ n : Int, v = .int .i64 n ∧ Fits n := by
  obtain ⟨m, rfl⟩ := okWide_int Try.underlying3 hv
  obtain ⟨fuel, hf⟩ := h
  obtain ⟨a, e0, _, wa⟩ := DataW.trod_int Try.underlying3 hf
  have hma : m = a := by simpa [Value.cells] using e0
  subst hma
  exact ⟨m, rfl, fits_of_wf wa⟩
set_option maxRecDepth 100000 in
set_option maxHeartbeats 4000000 in
theorem plays_many (A D : Option Addr) (n c m d : Nat) (x y pl : Int) (w : World) (h : 100 < n ∨ 100 < m) :
    Calls Try.prog 11 #[.slice A n c, .slice D m d, .agg #[.int .i64 x, .int .i64 y], .int .i64 pl] w fun e w' => e = .returned (.bool true) ∧ Below w.heap.size w w' := by
  go_enter Try.func11, Try.ntmps11
  go_wp2_with fail
  have k0 := (Clean.start w).alloc (.cells #[.int .i64 x, .int .i64 y] 24)
  refine (awake_c _).mono ?_
  rintro e w1 ⟨rfl, hB⟩
  have K1 := Lib.hid (k0.next hB)
  clear k0 hB
  by_cases h1 : 100 < n
  · have h2 : (100 : Int) < (n : Int) := by omega
    clear h h1
    go_wp2_with fail
    go_ret
    exact ⟨rfl, K1.out.below⟩
  · have h2 : ¬ (100 : Int) < (n : Int) := by omega
    have h3 : (100 : Int) < (m : Int) := by omega
    clear h h1
    go_wp2_with fail
    go_ret
    exact ⟨rfl, K1.out.below⟩
theorem plays_any (A D : Option Addr) (n c m d : Nat) (ids0 : List Id) (ds : List Deed) (x y pl : Int) (w : World) (hR : IdsR w (fun _ => 0) 0 A ids0) (hn : ids0.length = n) (hD : ManyR deedCells 5 w (fun _ => 0) 0 D ds) (hm : ds.length = m) :
    Calls Try.prog 11 #[.slice A n c, .slice D m d, .agg #[.int .i64 x, .int .i64 y], .int .i64 pl] w fun e w' => e = .returned (.bool true) ∧ Below w.heap.size w w' := by
  by_cases h100 : n ≤ 100
  · by_cases h60 : m ≤ 100
    · exact plays_few A D n c m d ids0 ds x y pl w hR hn hD hm h100 h60
    · exact plays_many A D n c m d x y pl w (.inr (by omega))
  · exact plays_many A D n c m d x y pl w (.inl (by omega))

set_option maxRecDepth 100000 in
theorem axisPlays_lifted (os : Os) (started : os.Started) (H : Type) (enc : TypeId × Value → H) :
    ReturnsInHanded {} Try.checked os 11 .any (Rows.axisPlaysSpec.pre6 enc Try.prog Try.f11 Rows.axisPlaysRow.domain false) (Rows.axisPlaysSpec.post enc Try.prog Try.f11 false true false false) := by
  refine returnsInHanded_of_change (C := Try.checked) Try.own started (by kernel_rfl) Try.func11
    (ChangeSpec.witness6 (enc := enc) (C := Try.checked) false ⟨#[], #[.slice none 0 0, .slice none 0 0, .agg #[.int .i64 0, .int .i64 0], .int .i64 0], []⟩ 8 (by kernel_rfl) (by kernel_rfl) (by kernel_rfl) (by kernel_rfl)) ?_
  intro W base args ds gs before hval0 hW _ _
  have hval : ∀ (j : Nat) t v, Try.f11.params[j]? = some t → args[j]? = some v → Value.okWide Try.prog W .any base t v := hval0
  have hW' := hW
  obtain ⟨p, q, hA0, hV, rfl, hfz, hnd⟩ := hW
  have hA : DataW.TrodAll enc Try.prog W 0 (fun _ => true) true Try.f11.params.toList args.toList ds p := hA0
  rw [Try.params11] at hA hval
  obtain ⟨v0, v1, v2, v3, d0, d1, d2, d3, p0, p1, p2, p3, rfl, rfl, rfl, h0, h1, h2, h3⟩ := trodAll_four hA
  obtain ⟨rfl, rfl⟩ := trodVars_none hV
  clear hA0 hval0
  simp only [List.append_nil] at hW'
  have hlt : ∀ x ∈ p0 ++ p1 ++ p2 ++ p3, x.block < W.heap.size := fun x hx => by simpa using hW'.lt x hx
  obtain ⟨A0, n0, c0, l0, rfl, hn0, hm0, hR0, hg0⟩ := open_ids (hval 0 22 v0 rfl rfl) h0
  obtain ⟨A1, n1, c1, l1, rfl, hn1, hm1, hR1, hg1⟩ := open_deeds (hval 1 57 v1 rfl rfl) h1
  obtain ⟨x2, y2, rfl, fx2, fy2⟩ := open_id (hval 2 24 v2 rfl rfl) h2
  obtain ⟨x3, rfl, fx3⟩ := open_i64 (hval 3 3 v3 rfl rfl) h3
  refine (plays_any A0 A1 n0 c0 n1 c1 l0 l1 x2 y2 x3 W hR0 hn0 hR1 hn1).mono fun e W' ⟨he, hnx⟩ => ?_
  subst he
  refine ⟨_, rfl, _, _, _, [], p0 ++ p1 ++ p2 ++ p3, [], hW', ?_, ?_, rfl, hnx.frame _, fun h => by cases h⟩
  · exact trodAll_mk1 (shut_bool Try.underlying4 true)
  · rw [List.append_assoc, List.append_assoc]
    exact trodAll_mk4 (Below.trod Try.laidOut (by kernel_rfl) (of_decide_eq_true (by kernel_rfl)) h0 hnx (fun x hx => hlt x (by simp [hx]))) (Below.trod Try.laidOut (by kernel_rfl) (of_decide_eq_true (by kernel_rfl)) h1 hnx (fun x hx => hlt x (by simp [hx]))) (Below.trod Try.laidOut (by kernel_rfl) (of_decide_eq_true (by kernel_rfl)) h2 hnx (fun x hx => hlt x (by simp [hx]))) (Below.trod Try.laidOut (by kernel_rfl) (of_decide_eq_true (by kernel_rfl)) h3 hnx (fun x hx => hlt x (by simp [hx])))

theorem axisPlays_holds : Rows.AxisPlaysSaid :=
  OpenClaim.holds_of_wide 11 Try.f11 rfl rfl rfl rfl rfl rfl rfl ⟨rfl, rfl, rfl, rfl, rfl⟩ rfl rfl rfl rfl rfl (by kernel_rfl) Try.func11 (by kernel_rfl)
    (of_decide_eq_true (by kernel_rfl)) (by unfold Func.isWrapper; first | (rw [if_pos (by decide +kernel)]; kernel_rfl) | (rw [if_neg (by decide +kernel)]; exact ⟨rfl, rfl⟩))
    (fun os started H enc _ => axisPlays_lifted os started H enc)
end Go.Proofs.Ytgmlhpkhecbkoaa
