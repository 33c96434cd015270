/-
  A nil axis: At, Len, Place, Insert, Delete, Revive, Has, Between. No condition.
-/
import Derived.Test.YtgmlhpkhecbkoaaJ3
import Derived.Test.YtgmlhpkhecbkoaaC7
namespace Go.Proofs.Ytgmlhpkhecbkoaa
open Go.RowKit

def Ret (w : World) (v : Value) (e : Ending) (w' : World) : Prop := e = .returned v ∧ Below w.heap.size w w'
set_option maxRecDepth 100000 in
set_option maxHeartbeats 1000000 in
theorem len_nil (w : World) : Calls Try.prog 20 #[.pointer none] w fun e w' => e = .returned (.int .i64 0) ∧ w' = w := by
  go_enter Try.func20, Try.ntmps20
  go_wp2
  go_ret
  exact ⟨rfl, rfl⟩
set_option maxRecDepth 100000 in
set_option maxHeartbeats 1000000 in
theorem at_nil (w : World) : Calls Try.prog 22 #[.pointer none, .int .i64 0] w (Ret w (.tuple #[.agg #[.int .i64 0, .int .i64 0], .bool false])) := by
  go_enter Try.func22, Try.ntmps22
  go_wp2_with (go_at_call 20; refine (len_nil _).mono ?_; rintro e w1 ⟨rfl, rfl⟩)
  exact bodyPost_ret (v := .tuple #[.agg #[.int .i64 0, .int .i64 0], .bool false]) (by simp [results, Try.results22, go_sem]) rfl ⟨rfl, (Below.refl _ _).alloc (Nat.le_refl _) _⟩
set_option maxRecDepth 100000 in
set_option maxHeartbeats 1000000 in
theorem place_nil (w : World) (x y : Int) : Calls Try.prog 18 #[.pointer none, .agg #[.int .i64 x, .int .i64 y]] w (Ret w (.tuple #[.int .i64 0, .bool false])) := by
  go_enter Try.func18, Try.ntmps18
  go_wp2
  go_ret2
  exact ⟨rfl, (Below.refl _ _).alloc (Nat.le_refl _) _⟩
set_option maxRecDepth 100000 in
set_option maxHeartbeats 1000000 in
theorem insert_nil (w : World) (b1 b2 x y : Int) : Calls Try.prog 32 #[.pointer none, .agg #[.int .i64 b1, .int .i64 b2], .agg #[.int .i64 x, .int .i64 y]] w (Ret w (.int .i64 1)) := by
  go_enter Try.func32, Try.ntmps32
  go_wp2
  go_ret
  exact ⟨rfl, ((Below.refl _ _).alloc (Nat.le_refl _) _).alloc (by simp) _⟩
set_option maxRecDepth 100000 in
set_option maxHeartbeats 1000000 in
theorem turn_nil (w : World) (x y : Int) (b : Bool) : Calls Try.prog 59 #[.pointer none, .agg #[.int .i64 x, .int .i64 y], .bool b] w (Ret w (.int .i64 1)) := by
  go_enter Try.func59, Try.ntmps59
  go_wp2
  go_ret
  exact ⟨rfl, (Below.refl _ _).alloc (Nat.le_refl _) _⟩
set_option maxRecDepth 100000 in
set_option maxHeartbeats 1000000 in
theorem delete_nil (w : World) (x y : Int) : Calls Try.prog 19 #[.pointer none, .agg #[.int .i64 x, .int .i64 y]] w (Ret w (.int .i64 1)) := by
  go_enter Try.func19, Try.ntmps19
  go_wp2_with (go_at_call 59; refine (turn_nil _ _ _ _).mono ?_; rintro e w1 ⟨rfl, hB⟩)
  go_ret
  exact ⟨rfl, ((Below.refl _ _).alloc (Nat.le_refl _) _).trans (hB.mono (by simp))⟩
set_option maxRecDepth 100000 in
set_option maxHeartbeats 1000000 in
theorem revive_nil (w : World) (x y : Int) : Calls Try.prog 23 #[.pointer none, .agg #[.int .i64 x, .int .i64 y]] w (Ret w (.int .i64 1)) := by
  go_enter Try.func23, Try.ntmps23
  go_wp2_with (go_at_call 59; refine (turn_nil _ _ _ _).mono ?_; rintro e w1 ⟨rfl, hB⟩)
  go_ret
  exact ⟨rfl, ((Below.refl _ _).alloc (Nat.le_refl _) _).trans (hB.mono (by simp))⟩
set_option maxRecDepth 100000 in
set_option maxHeartbeats 1000000 in
theorem has_nil (w : World) (x y : Int) : Calls Try.prog 21 #[.pointer none, .agg #[.int .i64 x, .int .i64 y]] w (Ret w (.bool false)) := by
  go_enter Try.func21, Try.ntmps21
  go_wp2
  go_ret
  exact ⟨rfl, (Below.refl _ _).alloc (Nat.le_refl _) _⟩
set_option maxRecDepth 100000 in
set_option maxHeartbeats 1000000 in
theorem between_nil (w : World) (x1 x2 y1 y2 : Int) : Calls Try.prog 36 #[.pointer none, .agg #[.int .i64 x1, .int .i64 x2], .agg #[.int .i64 y1, .int .i64 y2]] w (Ret w (.slice none 0 0)) := by
  go_enter Try.func36, Try.ntmps36
  go_wp2
  go_ret
  exact ⟨rfl, ((Below.refl _ _).alloc (Nat.le_refl _) _).alloc (by simp) _⟩
end Go.Proofs.Ytgmlhpkhecbkoaa
