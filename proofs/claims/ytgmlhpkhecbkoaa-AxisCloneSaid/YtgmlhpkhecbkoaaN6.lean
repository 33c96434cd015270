/-
  Plain laws: what lies between two ids, and the places of its ids. No condition.
-/
import Derived.Test.YtgmlhpkhecbkoaaN5
namespace Go.Proofs.Ytgmlhpkhecbkoaa
open Go.RowKit

theorem betweenL_comm (ids : List Id) (live : List Bool) (a b : Id) : betweenL ids live a b = betweenL ids live b a := by
  unfold betweenL
  by_cases h : a ∈ ids ∧ b ∈ ids
  · rw [if_pos h, if_pos ⟨h.2, h.1⟩, Nat.max_comm, Nat.min_comm]
  · rw [if_neg h, if_neg (fun k => h ⟨k.2, k.1⟩)]
theorem aliveOf_get (ids : List Id) (live : List Bool) (k : Nat) (z : Id) (h : (aliveOf ids live)[k]? = some z) : ∃ i : Nat, ids[i]? = some z ∧ live[i]? = some true ∧ (aliveOf (ids.take i) (live.take i)).length = k := by
  induction ids generalizing live k with
  | nil => simp [aliveOf] at h
  | cons x ids ih =>
    match live, h with
    | [], h => simp [aliveOf] at h
    | l :: live, h =>
      cases l with
      | false =>
        simp only [aliveOf, Bool.false_eq_true, if_false] at h
        obtain ⟨i, h1, h2, h3⟩ := ih live k h
        exact ⟨i + 1, h1, h2, by simpa [aliveOf] using h3⟩
      | true =>
        simp only [aliveOf, if_true] at h
        cases k with
        | zero => exact ⟨0, by simpa using h, rfl, rfl⟩
        | succ k =>
          obtain ⟨i, h1, h2, h3⟩ := ih live k (by simpa using h)
          exact ⟨i + 1, h1, h2, by simpa [aliveOf] using h3⟩
theorem place_alive (ids : List Id) (live : List Bool) (h : live.length = ids.length) (hd : ids.Nodup) (k : Nat) (z : Id) (hk : (aliveOf ids live)[k]? = some z) : placeR ids live z = .tuple #[.int .i64 (k : Int), .bool true] := by
  obtain ⟨i, h1, h2, h3⟩ := aliveOf_get ids live k z hk
  have hi := idxOf_get ids hd i z h1
  have hil := (List.getElem?_eq_some_iff.1 h1).1
  unfold placeR
  rw [hi, if_pos ⟨List.mem_of_getElem? h1, by rw [List.getD_eq_getElem?_getD, h2]; rfl⟩, List.getD_eq_getElem?_getD, aheadOf_at ids live h i hil, Option.getD_some, h3]
theorem aliveOf_pre (ids : List Id) (live : List Bool) (h : live.length = ids.length) (hi : Nat) : ∃ r, aliveOf ids live = aliveOf (ids.take hi) (live.take hi) ++ r := by
  refine ⟨aliveOf (ids.drop hi) (live.drop hi), ?_⟩
  rw [← aliveOf_append _ _ _ _ (by simp [h]), List.take_append_drop, List.take_append_drop]
/-- What lies between two ids stands among the live ones, one behind the other. -/
theorem between_at (ids : List Id) (live : List Bool) (h : live.length = ids.length) (a b : Id) : ∃ q, q ≤ ids.length ∧ ∀ (i : Nat) z, (betweenL ids live a b)[i]? = some z → (aliveOf ids live)[q + i]? = some z := by
  by_cases hab : a ∈ ids ∧ b ∈ ids
  · refine ⟨(aliveOf (ids.take (min (ids.idxOf a) (ids.idxOf b))) (live.take (min (ids.idxOf a) (ids.idxOf b)))).length, Nat.le_trans (length_aliveOf _ _) (by simp; omega), fun i z hz => ?_⟩
    unfold betweenL at hz
    rw [if_pos hab, List.getElem?_drop] at hz
    obtain ⟨r, hr⟩ := aliveOf_pre ids live h (max (ids.idxOf a) (ids.idxOf b) + 1)
    rw [hr, List.getElem?_append_left (List.getElem?_eq_some_iff.1 hz).1]
    exact hz
  · refine ⟨0, Nat.zero_le _, fun i z hz => ?_⟩
    unfold betweenL at hz
    rw [if_neg hab] at hz
    simp at hz
theorem between_places (ids : List Id) (live : List Bool) (h : live.length = ids.length) (hd : ids.Nodup) (a b : Id) : ∃ q : Nat, q ≤ ids.length ∧ ∀ (i : Nat) z, (betweenL ids live a b)[i]? = some z → placeR ids live z = .tuple #[.int .i64 ((q : Int) + (i : Int)), .bool true] := by
  obtain ⟨q, hql, hq⟩ := between_at ids live h a b
  exact ⟨q, hql, fun i z hz => by rw [place_alive ids live h hd (q + i) z (hq i z hz)]; simp⟩
theorem length_between (ids : List Id) (live : List Bool) (a b : Id) : (betweenL ids live a b).length ≤ ids.length := by
  unfold betweenL
  split
  · rw [List.length_drop]
    refine Nat.le_trans (Nat.sub_le _ _) (Nat.le_trans (length_aliveOf _ _) ?_)
    simp; omega
  · simp
end Go.Proofs.Ytgmlhpkhecbkoaa
