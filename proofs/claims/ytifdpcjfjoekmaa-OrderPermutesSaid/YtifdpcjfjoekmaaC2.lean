/-
  counterpaneref02: sign: its contract. No condition.
-/
import Derived.Test.YtifdpcjfjoekmaaB3
namespace Go.Proofs.Ytifdpcjfjoekmaa
open Go.RowKit

def sg (less more : Bool) : Int := if less then -1 else if more then 1 else 0
set_option maxRecDepth 100000 in
theorem rsign_c (less more : Bool) (w : World) : Calls Try.prog 20 #[.bool less, .bool more] w fun e w' => e = .returned (.int .i64 (sg less more)) ∧ w' = w := by
  cases less <;> cases more
  all_goals
    go_enter Try.func20, Try.ntmps20
    go_wp2_with fail
    go_ret
    exact ⟨rfl, rfl⟩
end Go.Proofs.Ytifdpcjfjoekmaa
