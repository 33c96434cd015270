/-
  (*counterpaneref03.Axis).Set. Condition: the axis lies in memory as RefAt says.
-/
import Derived.Test.YtgmlhpkhecbkoaaR7
namespace Go.Proofs.Ytgmlhpkhecbkoaa
open Go.RowKit

theorem RefIs.setLive {w : World} {own : Tags} {t p : Nat} {ids : List Id} {live : List Bool} {vI : Value} {g c i n : Nat} (a : RefIs w own t p ids live vI (.slice (some ⟨g, 0, none⟩) n c)) (b : Bool) (hi : i < live.length) :
    w.frozen? ⟨g, i, none⟩ = false ∧ (∃ u, w.cell? ⟨g, i, none⟩ = some (.bool u)) ∧ Tr own t w own (w.setCell ⟨g, i, none⟩ (.bool b)) ∧ RefIs (w.setCell ⟨g, i, none⟩ (.bool b)) own t p ids (live.set i b) vI (.slice (some ⟨g, 0, none⟩) n c) := by
  have hr := a.rL
  have ho := hr.2 g rfl
  rcases hr.1.2 with ⟨hv, _⟩ | ⟨g', cap, cur, hv, _, hg, h1, h2, hsz, htake⟩
  · cases hv
  · injection hv with e1 e2 e3
    injection e1 with e1
    injection e1 with e1 e4
    subst e1 e2 e3
    have hb : Blk w g 4 cur := hg
    have hs := hb.store i (.bool b)
    have hcell : w.cell? ⟨g, i, none⟩ = some (.bool live[i]) := by
      rw [hb.cell]
      have h5 : (cur.toList.take (live.length * 1))[i]? = some (.bool live[i]) := by
        rw [htake]; simp [boolCells, hi]
      rw [List.getElem?_take, if_pos (by omega)] at h5
      simpa using h5
    refine ⟨hb.frozen i, ⟨_, hcell⟩, (Tr.refl own t w).setCell (.inl ho) _, a.tag, a.blk.far (a.blk.ne_type hb (by decide)) _, a.rI.stored _ (fun _ _ h _ => h.ne_type hb (by decide)), ?_⟩
    refine ⟨⟨by simp [boolCells], .inr ⟨g, c, _, by simp, Nat.zero_le _, hs, by simpa using h1, h2, by simpa using hsz, ?_⟩⟩, hr.2⟩
    have : (cur.setIfInBounds i (.bool b)).toList.take (live.length * 1) = (cur.toList.take (live.length * 1)).set i (.bool b) := by
      simp [List.take_set]
    rw [List.length_set, this, htake]
    simp [boolCells, List.map_set]

set_option maxRecDepth 100000 in
set_option maxHeartbeats 2000000 in
theorem rset_none (w : World) (own : Tags) (t p : Nat) (ids : List Id) (live : List Bool) (x y : Int) (b : Bool) (h : RefAt w own t p ids live) (hx : idxI (x, y) ids = -1) :
    Calls Try.prog 68 #[.pointer (some ⟨p, 0, none⟩), .agg #[.int .i64 x, .int .i64 y], .bool b] w (RA w own t p ids live (.int .i64 3)) := by
  have hsp := Lib.hid (fun o => rfind_c (w.alloc o) own t p ids live x y (h.keep (Same.alloc o)))
  have H := Lib.hid h
  rw [hx] at hsp
  clear hx h
  go_enter Try.func68, Try.ntmps68
  go_wp2_with (go_at_call 42; refine (hsp.out _).mono ?_; rintro e w1 ⟨rfl, hB⟩)
  go_ret
  exact ⟨rfl, own, ((Tr.refl own t w).alloc _).below hB, H.out.keep ((Same.alloc _).trans (by simp) (Same.below hB))⟩

set_option maxRecDepth 100000 in
set_option maxHeartbeats 2000000 in
theorem rset_same (w : World) (own : Tags) (t p : Nat) (ids : List Id) (live : List Bool) (x y : Int) (b : Bool) (i : Nat) (h : RefAt w own t p ids live) (hx : idxI (x, y) ids = (i : Int)) (hi : live[i]? = some b) :
    Calls Try.prog 68 #[.pointer (some ⟨p, 0, none⟩), .agg #[.int .i64 x, .int .i64 y], .bool b] w (RA w own t p ids live (.int .i64 11)) := by
  have hsp := Lib.hid (fun o => rfind_c (w.alloc o) own t p ids live x y (h.keep (Same.alloc o)))
  rw [hx] at hsp
  have H := Lib.hid h
  obtain ⟨vI, vL, a⟩ := h.is
  obtain ⟨bL, offL, c, rfl, hbL, _, g⟩ := a.rL.boolAt hi
  have c1 := a.blk.cell 1
  simp at c1
  have hp := a.blk.lt
  have hib : i < live.length := (List.getElem?_eq_some_iff.1 hi).1
  have hil : (i : Int) < (live.length : Int) := by omega
  have hi0 : (0 : Int) ≤ (i : Int) := by omega
  clear a hi hx h
  go_enter Try.func68, Try.ntmps68
  go_wp2_with fail
  refine (hsp.out _).mono ?_
  rintro e w1 ⟨rfl, hB⟩
  have c1' := (hB.cell (p := ⟨p, 1, none⟩) (by simp; omega)).trans ((World.cell?_alloc_lt _ _ _ (by exact hp)).trans c1)
  have g' := (hB.cell (p := ⟨bL, offL + i, none⟩) (by simp; omega)).trans ((World.cell?_alloc_lt _ _ _ (by exact hbL)).trans g)
  have HB := Lib.hid hB
  clear hB c1 g
  have hbb : (b == b) = true := by simp
  go_wp2
  go_ret
  exact ⟨rfl, own, ((Tr.refl own t w).alloc _).below HB.out, H.out.keep ((Same.alloc _).trans (by simp) (Same.below HB.out))⟩

set_option maxRecDepth 100000 in
set_option maxHeartbeats 2000000 in
theorem rset_other (w : World) (own : Tags) (t p : Nat) (ids : List Id) (live : List Bool) (x y : Int) (b : Bool) (i : Nat) (h : RefAt w own t p ids live) (hx : idxI (x, y) ids = (i : Int)) (hi : live[i]? = some (!b)) :
    Calls Try.prog 68 #[.pointer (some ⟨p, 0, none⟩), .agg #[.int .i64 x, .int .i64 y], .bool b] w (RA w own t p ids (live.set i b) (.int .i64 0)) := by
  have hsp := Lib.hid (fun o => rfind_c (w.alloc o) own t p ids live x y (h.keep (Same.alloc o)))
  rw [hx] at hsp
  have H := Lib.hid h
  have hib : i < live.length := (List.getElem?_eq_some_iff.1 hi).1
  have hll : live.length ≤ 1000 := by rw [h.len]; exact h.le
  obtain ⟨vI, vL, a⟩ := h.is
  obtain ⟨gL, cL, rfl⟩ := ownsRow_slice a.rL.1 (by omega)
  have g := ((row_src a.rL).2 _ rfl).2.2 i (.bool (!b)) (by simp [boolCells, hi])
  dsimp only at g
  have hgL := World.block_lt_of_cell? w _ g
  have c1 := a.blk.cell 1
  simp at c1
  have hp := a.blk.lt
  have hil : (i : Int) < (live.length : Int) := by omega
  have hi0 : (0 : Int) ≤ (i : Int) := by omega
  have Ha := Lib.hid a
  clear a hi hx h
  obtain ⟨i0, hi, hz0, hz1, hz2⟩ := info_parts Try.info4
  have hbb : ((!b) == b) = false := by cases b <;> rfl
  obtain ⟨nb, hnb⟩ : ∃ nb, nb = !b := ⟨_, rfl⟩
  rw [← hnb] at g hbb
  clear hnb
  go_enter Try.func68, Try.ntmps68
  go_wp2_with fail
  refine (hsp.out _).mono ?_
  rintro e w1 ⟨rfl, hB⟩
  have c1' := (hB.cell (p := ⟨p, 1, none⟩) (by simp; omega)).trans ((World.cell?_alloc_lt _ _ _ (by exact hp)).trans c1)
  have g' := (hB.cell (p := ⟨gL, i, none⟩) (by have : gL < w.heap.size := hgL; simp; omega)).trans ((World.cell?_alloc_lt _ _ _ (by exact hgL)).trans g)
  have tr1 := Lib.hid (((Tr.refl own t w).alloc (.cells #[.int .i64 x, .int .i64 y] 24)).below hB)
  have a1 := Lib.hid (Ha.out.keep ((Same.alloc (.cells #[.int .i64 x, .int .i64 y] 24)).trans (by simp) (Same.below hB)))
  have hb2 : Hid (Below w1.heap.size w1 (w1.alloc (.cells #[] 4))) := (Below.refl _ _).alloc (Nat.le_refl _) _
  have hr2 : Hid ((w1.alloc (.cells #[] 4)).ownsRow w1.heap.size 4 1 (.slice (some ⟨w1.heap.size, 0, none⟩) 0 0) 0 []) := World.ownsRow_lit w1 #[] 0 (Nat.le_refl _) (Nat.zero_le _) (by simp)
  have hsrc := Lib.hid (row_ahead (a1.out.keep (Same.below hb2.out)).rL live.length _ rfl)
  have hp1 : p < w1.heap.size := by have := hB.size; simp at this; omega
  clear hB c1 g
  go_wp2_with (at_builtin; refine wpList_append_own_at _ rfl _ _ _ rfl w1.heap.size 4 i0 _ 1 1 Try.underlying53 hi hz0 hz1 hz2 rfl (by omega) _ _ _ rfl hr2.out ⟨gL, 0, none⟩ live.length cL (boolCells live) rfl (by simp [boolCells]) (fun j u hj => hsrc.out j u (by rw [List.take_of_length_le (by simp [boolCells])]; exact hj)) (boolCells_one live) (by simp only [maxLen]; omega) (by omega) (by simp) ?_; intro v' w2 hown2 hgrow2 _ _; rw [Nat.zero_add, List.nil_append] at hown2; obtain ⟨gN, cN, rfl⟩ := ownsRow_slice hown2 (by omega); obtain ⟨hq3, own3, tr3, a3⟩ := a1.out.newL (hb2.out.trans (Below.grew hgrow2 (ownsRow_base hr2.out) (by simp))) hown2; have f1 := hq3.frozen 1; have d1 := hq3.cell 1; simp at d1; have e1 := a3.blk.cell 1; simp at e1; obtain ⟨f2, ⟨u2, d2⟩, tr4, a4⟩ := a3.setLive (i := i) b hib)
  go_ret
  exact ⟨rfl, own3, (tr1.out.trans tr3).trans tr4, by rw [List.length_set]; exact H.out.len, H.out.le, _, _, a4⟩

theorem rset_c (w : World) (own : Tags) (t p : Nat) (ids : List Id) (live : List Bool) (x y : Int) (b : Bool) (h : RefAt w own t p ids live) :
    Calls Try.prog 68 #[.pointer (some ⟨p, 0, none⟩), .agg #[.int .i64 x, .int .i64 y], .bool b] w (RA w own t p ids (turnL ids live (x, y) b) (.int .i64 (turnR ids live (x, y) b))) := by
  by_cases hm : (x, y) ∈ ids
  · have hi : ids.idxOf (x, y) < live.length := by rw [h.len]; exact List.idxOf_lt_length_iff.2 hm
    have hx : idxI (x, y) ids = (ids.idxOf (x, y) : Int) := by unfold idxI; rw [if_pos hm]
    have hg := List.getElem?_eq_getElem hi
    unfold turnR turnL
    rw [if_pos hm, if_pos hm, List.getD_eq_getElem?_getD, hg, Option.getD_some]
    by_cases hb : live[ids.idxOf (x, y)] = b
    · rw [if_pos hb, ← hb, List.set_getElem_self]
      exact rset_same w own t p ids live x y _ _ h hx hg
    · rw [if_neg hb]
      exact rset_other w own t p ids live x y b _ h hx (by rw [hg]; congr 1; cases b <;> simpa using hb)
  · unfold turnR turnL
    rw [if_neg hm, if_neg hm]
    exact rset_none w own t p ids live x y b h (by unfold idxI; rw [if_neg hm])
end Go.Proofs.Ytgmlhpkhecbkoaa
