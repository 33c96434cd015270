/-
  counterpanelaw03.AxisFull: the plain law of its ids. No condition.
-/
import Derived.Test.YtgmlhpkhecbkoaaR7
import Derived.Test.YtgmlhpkhecbkoaaK1
namespace Go.Proofs.Ytgmlhpkhecbkoaa
open Go.RowKit

def fulls : Nat → List Id
  | 0 => []
  | m + 1 => fulls m ++ [(7, ((m + 1 : Nat) : Int))]
theorem length_fulls (m : Nat) : (fulls m).length = m := by
  induction m with
  | zero => rfl
  | succ m ih => simp [fulls, ih]
theorem mem_fulls {m : Nat} {z : Id} (h : z ∈ fulls m) : z.1 = 7 ∧ z.2 ≤ m := by
  induction m with
  | zero => cases h
  | succ m ih =>
    simp only [fulls, List.mem_append, List.mem_singleton] at h
    rcases h with h | h
    · have := ih h; exact ⟨this.1, by omega⟩
    · subst h; exact ⟨rfl, Int.le_refl _⟩
theorem newL_fulls (m : Nat) : newL (fulls m) = fulls (min m 1000) := by
  induction m with
  | zero => rfl
  | succ m ih =>
    have e : newL (fulls (m + 1)) = newStep (newL (fulls m)) (7, ((m + 1 : Nat) : Int)) := by
      unfold newL; rw [fulls, List.foldl_append]; rfl
    rw [e, ih]
    unfold newStep
    rw [length_fulls]
    by_cases hm : m < 1000
    · rw [Nat.min_eq_left (by omega), Nat.min_eq_left (by omega), if_neg (by omega), if_neg, fulls]
      rintro (h | h)
      · have := congrArg Prod.fst h; simp at this
      · have := (mem_fulls h).2; simp at this; omega
    · rw [Nat.min_eq_right (by omega), Nat.min_eq_right (by omega), if_pos rfl]
/-- Behind Insert all are live still. -/
theorem insLive_all (L : List Id) (b z : Id) : insLive L (List.replicate L.length true) b z = List.replicate (insIds L b z).length true := by
  by_cases h : insR L b z = 0
  · obtain ⟨_, _, _, _, hi, e⟩ := insR_ok h
    rw [e]
    unfold insLive
    rw [if_pos h, putAt_rep _ _ hi, length_putAt]
  · unfold insLive insIds; rw [if_neg h, if_neg h]
end Go.Proofs.Ytgmlhpkhecbkoaa
