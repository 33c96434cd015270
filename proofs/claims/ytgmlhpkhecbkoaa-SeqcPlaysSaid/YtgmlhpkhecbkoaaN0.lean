/-
  Plain laws of what lies between two ids of an axis. No condition.
-/
import Derived.Test.YtgmlhpkhecbkoaaM3
import Derived.Test.YtgmlhpkhecbkoaaK1
namespace Go.Proofs.Ytgmlhpkhecbkoaa
open Go.RowKit

theorem aliveOf_append (a b : List Id) (la lb : List Bool) (h : la.length = a.length) : aliveOf (a ++ b) (la ++ lb) = aliveOf a la ++ aliveOf b lb := by
  induction a generalizing la with
  | nil =>
    have : la = [] := by simpa using h
    subst this; simp [aliveOf]
  | cons x a ih =>
    match la, h with
    | l :: la, h =>
      have := ih la (by simpa using h)
      simp only [List.cons_append, aliveOf, this]
      split <;> simp
/-- The live ones of the places from lo on, ahead of hi. -/
def seg (ids : List Id) (live : List Bool) (lo hi : Nat) : List Id := aliveOf ((ids.take hi).drop lo) ((live.take hi).drop lo)
theorem seg_eq (ids : List Id) (live : List Bool) (h : live.length = ids.length) (lo hi : Nat) (hl : lo ≤ hi) : (aliveOf (ids.take hi) (live.take hi)).drop (aliveOf (ids.take lo) (live.take lo)).length = seg ids live lo hi := by
  have e1 : ids.take hi = ids.take lo ++ (ids.take hi).drop lo := by
    have := List.take_append_drop lo (ids.take hi)
    rw [List.take_take, Nat.min_eq_left hl] at this
    exact this.symm
  have e2 : live.take hi = live.take lo ++ (live.take hi).drop lo := by
    have := List.take_append_drop lo (live.take hi)
    rw [List.take_take, Nat.min_eq_left hl] at this
    exact this.symm
  have e3 : aliveOf (ids.take hi) (live.take hi) = aliveOf (ids.take lo) (live.take lo) ++ seg ids live lo hi := by
    unfold seg
    rw [← aliveOf_append _ _ _ _ (by simp [h]), ← e1, ← e2]
  rw [e3, List.drop_left']
  rfl
theorem betweenL_seg (ids : List Id) (live : List Bool) (h : live.length = ids.length) (a b : Id) (ha : a ∈ ids) (hb : b ∈ ids) :
    betweenL ids live a b = seg ids live (min (ids.idxOf a) (ids.idxOf b)) (max (ids.idxOf a) (ids.idxOf b) + 1) := by
  unfold betweenL
  rw [if_pos ⟨ha, hb⟩]
  exact seg_eq ids live h _ _ (by omega)
theorem seg_all (ids : List Id) (live : List Bool) (h : live.length = ids.length) : seg ids live 0 ids.length = aliveOf ids live := by
  unfold seg
  rw [List.take_length, ← h, List.take_length]; rfl
theorem seg_one (ids : List Id) (live : List Bool) (i : Nat) (z : Id) (hz : ids[i]? = some z) (hl : live[i]? = some true) : seg ids live i (i + 1) = [z] := by
  have one : ∀ {α : Type} (l : List α) (i : Nat) (z : α), l[i]? = some z → (l.take (i + 1)).drop i = [z] := by
    intro α l i z h
    obtain ⟨h1, h2⟩ := List.getElem?_eq_some_iff.1 h
    rw [List.take_succ_eq_append_getElem h1, List.drop_left' (by simp; omega), h2]
  unfold seg
  rw [one _ _ _ hz, one _ _ _ hl]
  rfl
theorem idxOf_get (ids : List Id) (hd : ids.Nodup) (i : Nat) (z : Id) (h : ids[i]? = some z) : ids.idxOf z = i := by
  obtain ⟨h1, h2⟩ := List.getElem?_eq_some_iff.1 h
  rw [← h2]
  exact List.Nodup.idxOf_getElem hd i h1
theorem aliveOf_mem (ids : List Id) (live : List Bool) (z : Id) (h : z ∈ aliveOf ids live) : ∃ i : Nat, ids[i]? = some z ∧ live[i]? = some true := by
  induction ids generalizing live with
  | nil => simp [aliveOf] at h
  | cons x ids ih =>
    match live, h with
    | [], h => simp [aliveOf] at h
    | l :: live, h =>
      simp only [aliveOf] at h
      split at h
      · rename_i hl
        rcases List.mem_cons.1 h with rfl | h
        · exact ⟨0, rfl, by simp [hl]⟩
        · obtain ⟨i, h1, h2⟩ := ih live h; exact ⟨i + 1, h1, h2⟩
      · obtain ⟨i, h1, h2⟩ := ih live h; exact ⟨i + 1, h1, h2⟩

/-- Between the last one and the first one. -/
theorem between_ends (ids : List Id) (live : List Bool) (h : live.length = ids.length) (hd : ids.Nodup) (f l : Id) (hf : ids[0]? = some f) (hl : ids[ids.length - 1]? = some l) : betweenL ids live l f = aliveOf ids live ∧ betweenL ids live f l = aliveOf ids live := by
  have mf := List.mem_of_getElem? hf
  have ml := List.mem_of_getElem? hl
  have if_ := idxOf_get ids hd _ _ hf
  have il := idxOf_get ids hd _ _ hl
  have hpos : 0 < ids.length := (List.getElem?_eq_some_iff.1 hf).1
  constructor
  · rw [betweenL_seg ids live h l f ml mf, if_, il, show min (ids.length - 1) 0 = 0 by omega, show max (ids.length - 1) 0 + 1 = ids.length by omega, seg_all ids live h]
  · rw [betweenL_seg ids live h f l mf ml, if_, il, show min 0 (ids.length - 1) = 0 by omega, show max 0 (ids.length - 1) + 1 = ids.length by omega, seg_all ids live h]
/-- Between one that is live and itself. -/
theorem between_self (ids : List Id) (live : List Bool) (h : live.length = ids.length) (hd : ids.Nodup) (z : Id) (hz : z ∈ aliveOf ids live) : betweenL ids live z z = [z] := by
  obtain ⟨i, h1, h2⟩ := aliveOf_mem ids live z hz
  have m := List.mem_of_getElem? h1
  rw [betweenL_seg ids live h z z m m, idxOf_get ids hd i z h1, Nat.min_self, Nat.max_self]
  exact seg_one ids live i z h1 h2
/-- An id put in behind the last one. -/
theorem put_last (ids : List Id) (live : List Bool) (h : live.length = ids.length) (hd : ids.Nodup) (f l z : Id) (hf : ids[0]? = some f) (hl : ids[ids.length - 1]? = some l) (hr : insR ids l z = 0) (hnz : (0, 0) ∉ ids) :
    insIds ids l z = ids ++ [z] ∧ insLive ids live l z = live ++ [true] ∧ betweenL (ids ++ [z]) (live ++ [true]) f l = aliveOf ids live ∧ betweenL (ids ++ [z]) (live ++ [true]) f z = aliveOf ids live ++ [z] := by
  have mf := List.mem_of_getElem? hf
  have ml := List.mem_of_getElem? hl
  have il := idxOf_get ids hd _ _ hl
  have hpos : 0 < ids.length := (List.getElem?_eq_some_iff.1 hf).1
  obtain ⟨hz0, hzn, _⟩ := insR_ok hr
  have eat : insAt ids l = ids.length := by
    unfold insAt
    rw [if_neg (fun e : l = (0, 0) => hnz (by rw [← e]; exact ml)), il]; omega
  have hd' : (ids ++ [z]).Nodup := by
    rw [List.nodup_append]
    refine ⟨hd, by simp, ?_⟩
    intro a ha b hb e
    have : b = z := by simpa using hb
    subst this; subst e
    exact hzn ha
  have hlen : (live ++ [true]).length = (ids ++ [z]).length := by simp [h]
  have hf' : (ids ++ [z])[0]? = some f := by rw [List.getElem?_append_left hpos]; exact hf
  have hl' : (ids ++ [z])[ids.length - 1]? = some l := by rw [List.getElem?_append_left (by omega)]; exact hl
  have hz' : (ids ++ [z])[ids.length]? = some z := by simp
  refine ⟨?_, ?_, ?_, ?_⟩
  · unfold insIds; rw [if_pos hr, eat]; simp [putAt]
  · unfold insLive; rw [if_pos hr, eat, ← h]; simp [putAt]
  · rw [betweenL_seg _ _ hlen f l (by simp [mf]) (by simp [ml]), idxOf_get _ hd' _ _ hf', idxOf_get _ hd' _ _ hl', show min 0 (ids.length - 1) = 0 by omega, show max 0 (ids.length - 1) + 1 = ids.length by omega]
    unfold seg
    rw [List.take_left' rfl, List.take_left' h]; rfl
  · rw [betweenL_seg _ _ hlen f z (by simp [mf]) (by simp), idxOf_get _ hd' _ _ hf', idxOf_get _ hd' _ _ hz', show min 0 ids.length = 0 by omega, show max 0 ids.length + 1 = (ids ++ [z]).length by simp, seg_all _ _ hlen, aliveOf_append _ _ _ _ h]
    rfl
end Go.Proofs.Ytgmlhpkhecbkoaa
