/-
  AxisBackSaid, proved: for every input the law returns true, and each argument reads afterwards as it read before. No condition.
-/
import Derived.Test.YtgmlhpkhecbkoaaD1
import Derived.Test.YtgmlhpkhecbkoaaE1
namespace Go.Proofs.Ytgmlhpkhecbkoaa
open Go.RowKit Go.ChangeShapes Go.WideShapes Go.ChangeAt Go.Joins Go.Deep

theorem place_out (L : List Id) (la : List Bool) (k : Id) (h : k ∉ L) : placeR L la k = .tuple #[.int .i64 0, .bool false] := by
  unfold placeR; rw [if_neg (fun e => h e.1)]
theorem del_out (L : List Id) (la : List Bool) (k : Id) (b : Bool) (h : k ∉ L) : turnR L la k b = 3 ∧ turnL L la k b = la := by
  unfold turnR turnL; rw [if_neg h, if_neg h]; exact ⟨rfl, rfl⟩

set_option maxRecDepth 100000 in
set_option maxHeartbeats 4000000 in
theorem back_out (A : Option Addr) (n c : Nat) (ids : List Id) (x y : Int) (w : World) (hR : IdsR w (fun _ => 0) 0 A ids) (hn : ids.length = n) (h100 : n ≤ 100) (hin : (x, y) ∉ newL ids) :
    Calls Try.prog 3 #[.slice A n c, .agg #[.int .i64 x, .int .i64 y]] w fun e w' => e = .returned (.bool true) ∧ Below w.heap.size w w' := by
  have HR := Lib.hid hR
  have Hn := Lib.hid hn
  have hpl := Lib.hid (place_out (newL ids) (List.replicate (newL ids).length true) (x, y) hin)
  have hd1 := Lib.hid (del_out (newL ids) (List.replicate (newL ids).length true) (x, y) false hin)
  clear hR hn hin
  go_enter Try.func3, Try.ntmps3
  go_wp2_with fail
  have k0 := (Clean.start w).alloc (.cells #[.int .i64 x, .int .i64 y] 24)
  have x0 := Box.new (Clean.start w).fresh 24 #[.int .i64 x, .int .i64 y]
  have r0 := HR.out.keep (w' := w.alloc (.cells #[.int .i64 x, .int .i64 y] 24)) (by simp) (Same.alloc _)
  refine (awake_c _).mono ?_
  rintro e w1 ⟨rfl, hB⟩
  have K1 := Lib.hid (k0.next hB)
  have X1 := Lib.hid (x0.next hB)
  have R1 := Lib.hid (r0.keep hB.size (Same.below hB))
  clear k0 x0 r0 hB HR
  go_wp2_with fail
  refine (new_c A n c ids w1 (fun _ => 0) 0 1 R1.out Hn.out (by simp only [maxLen]; omega) (by decide)).mono ?_
  rintro e w2 ⟨own2, qa, rfl, tr2, hqa, a2⟩
  have K2 := Lib.hid (K1.out.tr tr2 (by decide))
  have X2 := Lib.hid (X1.out.tr tr2 (by decide))
  have R2 := Lib.hid (R1.out.keep tr2.size (tr2.toSame (by decide)))
  have A2 := Lib.hid a2
  clear tr2 a2 hqa K1 X1 R1
  go_wp2_with fail
  refine (new_c A n c ids w2 own2 0 2 R2.out Hn.out (by simp only [maxLen]; omega) (by decide)).mono ?_
  rintro e w3 ⟨own3, qb, rfl, tr3, hqb, b3⟩
  have S3 : Hid (ST w own3 qa qb (newL ids) (List.replicate (newL ids).length true) (List.replicate (newL ids).length true) x y w3) := ⟨K2.out.tr tr3 (by decide), A2.out.other tr3 (by decide), b3, X2.out.tr tr3 (by decide)⟩
  clear tr3 b3 hqb K2 X2 R2 A2
  generalize newL ids = L at *
  generalize List.replicate L.length true = la at *
  obtain ⟨c0, c1⟩ := S3.out.cells
  go_wp2_with fail
  refine (place_c w3 own3 1 qa L la x y S3.out.a S3.out.clean.fresh (by decide)).mono ?_
  rintro e w4 ⟨rfl, own4, tr4, a4⟩
  rw [hpl.out]
  have S4 := Lib.hid (S3.out.trA tr4 a4)
  clear tr4 a4 S3 c0 c1
  obtain ⟨c0, c1⟩ := S4.out.cells
  go_wp2_with fail
  refine (delete_c w4 own4 2 qb L la x y S4.out.b).mono ?_
  rintro e w5 ⟨rfl, own5, tr5, b5⟩
  rw [hd1.out.1]
  have S5 := Lib.hid (S4.out.trB tr5 b5)
  clear tr5 b5 S4 c0 c1
  go_wp2_with fail
  go_ret
  exact ⟨rfl, S5.out.clean.below⟩

set_option maxRecDepth 100000 in
set_option maxHeartbeats 4000000 in
theorem back_many (A : Option Addr) (n c : Nat) (x y : Int) (w : World) (h100 : 100 < n) :
    Calls Try.prog 3 #[.slice A n c, .agg #[.int .i64 x, .int .i64 y]] w fun e w' => e = .returned (.bool true) ∧ Below w.heap.size w w' := by
  go_enter Try.func3, Try.ntmps3
  go_wp2_with fail
  have k0 := (Clean.start w).alloc (.cells #[.int .i64 x, .int .i64 y] 24)
  refine (awake_c _).mono ?_
  rintro e w1 ⟨rfl, hB⟩
  have K1 := Lib.hid (k0.next hB)
  clear k0 hB
  go_wp2_with fail
  go_ret
  exact ⟨rfl, K1.out.below⟩
theorem back_any (A : Option Addr) (n c : Nat) (ids : List Id) (x y : Int) (w : World) (hR : IdsR w (fun _ => 0) 0 A ids) (hn : ids.length = n) :
    Calls Try.prog 3 #[.slice A n c, .agg #[.int .i64 x, .int .i64 y]] w fun e w' => e = .returned (.bool true) ∧ Below w.heap.size w w' := by
  by_cases h100 : n ≤ 100
  · by_cases hin : (x, y) ∈ newL ids
    · exact back_in A n c ids x y w hR hn h100 hin
    · exact back_out A n c ids x y w hR hn h100 hin
  · exact back_many A n c x y w (by omega)

set_option maxRecDepth 100000 in
theorem axisBack_lifted (os : Os) (started : os.Started) (H : Type) (enc : TypeId × Value → H) :
    ReturnsInHanded {} Try.checked os 3 .any (Rows.axisBackSpec.pre6 enc Try.prog Try.f3 Rows.axisBackRow.domain false) (Rows.axisBackSpec.post enc Try.prog Try.f3 false true false false) := by
  refine returnsInHanded_of_change (C := Try.checked) Try.own started (by kernel_rfl) Try.func3
    (ChangeSpec.witness6 (enc := enc) (C := Try.checked) false ⟨#[], #[.slice none 0 0, .agg #[.int .i64 0, .int .i64 0]], []⟩ 8 (by kernel_rfl) (by kernel_rfl) (by kernel_rfl) (by kernel_rfl)) ?_
  intro W base args ds gs before hval0 hW _ _
  have hval : ∀ (j : Nat) t v, Try.f3.params[j]? = some t → args[j]? = some v → Value.okWide Try.prog W .any base t v := hval0
  have hW' := hW
  obtain ⟨p, q, hA0, hV, rfl, hfz, hnd⟩ := hW
  have hA : DataW.TrodAll enc Try.prog W 0 (fun _ => true) true Try.f3.params.toList args.toList ds p := hA0
  rw [Try.params3] at hA hval
  obtain ⟨v0, v1, d0, d1, p0, p1, rfl, rfl, rfl, h0, h1⟩ := trodAll_two hA
  obtain ⟨rfl, rfl⟩ := trodVars_none hV
  clear hA0 hval0
  simp only [List.append_nil] at hW'
  have hlt : ∀ x ∈ p0 ++ p1, x.block < W.heap.size := fun x hx => by simpa using hW'.lt x hx
  obtain ⟨A, n, c, ids, rfl, hn, _, hR, _⟩ := open_ids (hval 0 22 v0 rfl rfl) h0
  obtain ⟨x, y, rfl, _, _⟩ := open_id (hval 1 24 v1 rfl rfl) h1
  refine (back_any A n c ids x y W hR hn).mono fun e W' ⟨he, hnx⟩ => ?_
  subst he
  refine ⟨_, rfl, _, _, _, [], p0 ++ p1, [], hW', ?_, ?_, rfl, hnx.frame _, fun h => by cases h⟩
  · exact trodAll_mk1 (shut_bool Try.underlying4 true)
  · exact trodAll_mk2 (Below.trod Try.laidOut (by kernel_rfl) (of_decide_eq_true (by kernel_rfl)) h0 hnx (fun x hx => hlt x (List.mem_append.2 (.inl hx))))
      (Below.trod Try.laidOut (by kernel_rfl) (of_decide_eq_true (by kernel_rfl)) h1 hnx (fun x hx => hlt x (List.mem_append.2 (.inr hx))))

theorem axisBack_holds : Rows.AxisBackSaid :=
  OpenClaim.holds_of_wide 3 Try.f3 rfl rfl rfl rfl rfl rfl rfl ⟨rfl, rfl, rfl, rfl, rfl⟩ rfl rfl rfl rfl rfl (by kernel_rfl) Try.func3 (by kernel_rfl)
    (of_decide_eq_true (by kernel_rfl)) (by unfold Func.isWrapper; first | (rw [if_pos (by decide +kernel)]; kernel_rfl) | (rw [if_neg (by decide +kernel)]; exact ⟨rfl, rfl⟩))
    (fun os started H enc _ => axisBack_lifted os started H enc)
end Go.Proofs.Ytgmlhpkhecbkoaa
