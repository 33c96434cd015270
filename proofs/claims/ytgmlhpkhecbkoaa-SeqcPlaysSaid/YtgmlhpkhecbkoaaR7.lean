/-
  (*counterpaneref03.Axis).Insert: its contract. Condition: the axis lies in memory as RefAt says.
-/
import Derived.Test.YtgmlhpkhecbkoaaR5
import Derived.Test.YtgmlhpkhecbkoaaR6
namespace Go.Proofs.Ytgmlhpkhecbkoaa
open Go.RowKit

theorem rinsert_c (w : World) (own : Tags) (t p : Nat) (ids : List Id) (live : List Bool) (b1 b2 x y : Int) (h : RefAt w own t p ids live) :
    Calls Try.prog 34 #[.pointer (some ⟨p, 0, none⟩), .agg #[.int .i64 b1, .int .i64 b2], .agg #[.int .i64 x, .int .i64 y]] w (RA w own t p (insIds ids (b1, b2) (x, y)) (insLive ids live (b1, b2) (x, y)) (.int .i64 (insR ids (b1, b2) (x, y)))) := by
  unfold insIds insLive
  by_cases hz : (x, y) = (0, 0)
  · have e : insR ids (b1, b2) (x, y) = 1 := by unfold insR; rw [if_pos hz]
    rw [e, if_neg (by decide), if_neg (by decide)]
    cases hz
    exact rins_zero w own t p ids live b1 b2 h
  · by_cases hn : (x, y) ∈ ids
    · have e : insR ids (b1, b2) (x, y) = 4 := by unfold insR; rw [if_neg hz, if_pos hn]
      rw [e, if_neg (by decide), if_neg (by decide)]
      exact rins_dup w own t p ids live b1 b2 x y (ids.idxOf (x, y)) h hz (by unfold idxI; rw [if_pos hn])
    · have hx : idxI (x, y) ids = -1 := by unfold idxI; rw [if_neg hn]
      by_cases hb : (b1, b2) ≠ (0, 0) ∧ (b1, b2) ∉ ids
      · have e : insR ids (b1, b2) (x, y) = 3 := by unfold insR; rw [if_neg hz, if_neg hn, if_pos hb]
        rw [e, if_neg (by decide), if_neg (by decide)]
        exact rins_out w own t p ids live b1 b2 x y h hz hx hb.1 (by unfold idxI; rw [if_neg hb.2])
      · have hb' : (b1, b2) = (0, 0) ∨ ((b1, b2) ≠ (0, 0) ∧ (b1, b2) ∈ ids) := by
          by_cases h0 : (b1, b2) = (0, 0)
          · exact .inl h0
          · exact .inr ⟨h0, Classical.byContradiction fun h1 => hb ⟨h0, h1⟩⟩
        by_cases hl : 1000 ≤ ids.length
        · have e : insR ids (b1, b2) (x, y) = 5 := by unfold insR; rw [if_neg hz, if_neg hn, if_neg hb, if_pos hl]
          rw [e, if_neg (by decide), if_neg (by decide)]
          refine rins_full w own t p ids live b1 b2 x y h hz hx hl (hb'.imp id fun ⟨h0, h1⟩ => ⟨ids.idxOf (b1, b2), h0, by unfold idxI; rw [if_pos h1]⟩)
        · have e : insR ids (b1, b2) (x, y) = 0 := by unfold insR; rw [if_neg hz, if_neg hn, if_neg hb, if_neg hl]
          rw [e, if_pos rfl, if_pos rfl]
          rcases hb' with h0 | ⟨h0, h1⟩
          · have e0 : insAt ids (b1, b2) = 0 := by unfold insAt; rw [if_pos h0]
            exact rins_put_zero w own t p ids live b1 b2 x y h hz hx (by omega) _ (by omega) h0 e0
          · have e0 : insAt ids (b1, b2) = ids.idxOf (b1, b2) + 1 := by unfold insAt; rw [if_neg h0]
            have hlt := List.idxOf_lt_length_iff.2 h1
            exact rins_put_in w own t p ids live b1 b2 x y h hz hx (by omega) _ (by omega) (ids.idxOf (b1, b2)) h0 (by unfold idxI; rw [if_pos h1]) e0
end Go.Proofs.Ytgmlhpkhecbkoaa
