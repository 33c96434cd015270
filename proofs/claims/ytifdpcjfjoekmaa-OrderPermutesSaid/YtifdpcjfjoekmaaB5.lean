/-
  counterpanelaw30.awake and its closure: their contracts. No condition.
-/
import Derived.Test.YtifdpcjfjoekmaaA18
namespace Go.Proofs.Ytifdpcjfjoekmaa
open Go.RowKit

def oneV (m : Int) : Val := ⟨1, m, 0, ⟨#[]⟩, false, 0⟩
def OneP (w : World) (m : Int) (e : Ending) (w' : World) : Prop := ∃ X, e = .returned (.slice (some ⟨X, 0, none⟩) 1 1) ∧ w.heap.size ≤ X ∧ Below w.heap.size w w' ∧ Blk w' X 42 (oneV m).cs.toArray
set_option maxRecDepth 100000 in
set_option maxHeartbeats 4000000 in
theorem aclo_c (m : Int) (w : World) : Calls Try.prog 14 #[.int .i64 m] w (OneP w m) := by
  go_enter Try.func14, Try.ntmps14
  go_wp2_with fail
  go_ret
  exact ⟨w.heap.size, rfl, Nat.le_refl _, (Below.refl _ w).alloc (Nat.le_refl _) _, Blk.new w 42 _⟩
end Go.Proofs.Ytifdpcjfjoekmaa
