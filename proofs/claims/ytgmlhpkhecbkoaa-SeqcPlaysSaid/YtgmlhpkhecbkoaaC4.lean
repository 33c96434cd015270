/-
  (*Axis).forget, turn, Delete, Revive, Len, Has, At, Place. Condition: the axis lies in memory as AxisAt says.
-/
import Derived.Test.YtgmlhpkhecbkoaaC3
namespace Go.Proofs.Ytgmlhpkhecbkoaa
open Go.RowKit

/-- The call returns v; the axis p then has these ids; nothing but what is tagged t was turned. -/
def AP (w : World) (own : Tags) (t p : Nat) (ids : List Id) (live : List Bool) (v : Value) (e : Ending) (w' : World) : Prop :=
  e = .returned v ∧ ∃ own', Tr own t w own' w' ∧ AxisAt w' own' t p ids live

theorem AxisIs.forgot {w : World} {own : Tags} {t p : Nat} {ids : List Id} {live : List Bool} {vI vL vS vA vV : Value} (a : AxisIs w own t p ids live vI vL vS vA vV) :
    Tr own t w own (((w.setCell ⟨p, 2, none⟩ (.map none)).setCell ⟨p, 3, none⟩ (.slice none 0 0)).setCell ⟨p, 4, none⟩ (.slice none 0 0)) ∧
    Unready (((w.setCell ⟨p, 2, none⟩ (.map none)).setCell ⟨p, 3, none⟩ (.slice none 0 0)).setCell ⟨p, 4, none⟩ (.slice none 0 0)) own t p ids live := by
  have b := ((a.blk.store 2 (.map none)).store 3 (.slice none 0 0)).store 4 (.slice none 0 0)
  have st : ∀ {W : World} {cs : Array Value} {v e size n xs} (q : Nat) (u : Value), Blk W p 73 cs → Row W own t e size v n xs → e ≠ 73 → Row (W.setCell ⟨p, q, none⟩ u) own t e size v n xs :=
    fun q u hb hr he => hr.stored (p := ⟨p, q, none⟩) u (fun _ _ h _ => h.ne_type hb he)
  refine ⟨(((Tr.refl own t w).setCell (.inl a.tag) _).setCell (.inl a.tag) _).setCell (.inl a.tag) _, vI, vL, a.tag, b, ?_, ?_⟩
  · exact st 4 _ ((a.blk.store 2 _).store 3 _) (st 3 _ (a.blk.store 2 _) (st 2 _ a.blk a.rI (by decide)) (by decide)) (by decide)
  · exact st 4 _ ((a.blk.store 2 _).store 3 _) (st 3 _ (a.blk.store 2 _) (st 2 _ a.blk a.rL (by decide)) (by decide)) (by decide)

set_option maxRecDepth 100000 in
set_option maxHeartbeats 1000000 in
theorem forget_c (w : World) (own : Tags) (t p : Nat) (ids : List Id) (live : List Bool) (vI vL vS vA vV : Value) (a : AxisIs w own t p ids live vI vL vS vA vV) :
    Calls Try.prog 67 #[.pointer (some ⟨p, 0, none⟩)] w fun e w' => e = .returned (.tuple #[]) ∧ Tr own t w own w' ∧ Unready w' own t p ids live := by
  have c2 := a.blk.cell 2
  have c3 := a.blk.cell 3
  have c4 := a.blk.cell 4
  have f2 := a.blk.frozen 2
  have f3 := a.blk.frozen 3
  have f4 := a.blk.frozen 4
  simp at c2 c3 c4
  have H := Lib.hid a.forgot
  clear a
  go_enter Try.func67, Try.ntmps67
  go_wp2
  go_end0
  exact ⟨rfl, H.out.1, H.out.2⟩

def turnR (ids : List Id) (live : List Bool) (k : Id) (b : Bool) : Int := if k ∈ ids then (if live.getD (ids.idxOf k) false = b then 11 else 0) else 3
def turnL (ids : List Id) (live : List Bool) (k : Id) (b : Bool) : List Bool := if k ∈ ids then live.set (ids.idxOf k) b else live

theorem AxisAt.exI {w : World} {own : Tags} {t p : Nat} {ids : List Id} {live : List Bool} (h : AxisAt w own t p ids live) : ∃ vI vL vS vA vV, AxisIs w own t p ids live vI vL vS vA vV := by
  rcases h.is with ⟨vI, vL, s, g, vV, a, _⟩ | ⟨vI, vL, a⟩
  · exact ⟨_, _, _, _, _, a⟩
  · exact ⟨_, _, _, _, _, a⟩

/-- A store into the row of lives. -/
theorem AxisIs.setLive {w : World} {own : Tags} {t p : Nat} {ids : List Id} {live : List Bool} {vI vS vA vV : Value} {bL offL c i : Nat} (a : AxisIs w own t p ids live vI (.slice (some ⟨bL, offL, none⟩) live.length c) vS vA vV) (b : Bool) (hi : i < live.length) :
    w.frozen? ⟨bL, offL + i, none⟩ = false ∧ Tr own t w own (w.setCell ⟨bL, offL + i, none⟩ (.bool b)) ∧ AxisIs (w.setCell ⟨bL, offL + i, none⟩ (.bool b)) own t p ids (live.set i b) vI (.slice (some ⟨bL, offL, none⟩) live.length c) vS vA vV := by
  have hr := a.rL
  have ho := hr.2 bL rfl
  rcases hr.1.2 with ⟨hv, _⟩ | ⟨g, cap, cur, hv, _, hg, h1, h2, hsz, htake⟩
  · cases hv
  · injection hv with e1 e2 e3
    injection e1 with e1
    injection e1 with e1 e4
    subst e1 e4 e3
    have hb : Blk w bL 4 cur := hg
    simp only [Nat.zero_add]
    refine ⟨hb.frozen i, (Tr.refl own t w).setCell (.inl ho) _, a.tag, a.blk.far (a.blk.ne_type hb (by decide)) _, a.rI.stored _ (fun _ _ h _ => h.ne_type hb (by decide)), ?_⟩
    have hs := hb.store i (.bool b)
    refine ⟨⟨by simp [boolCells], .inr ⟨bL, c, _, by simp, Nat.zero_le _, hs, by simpa using h1, h2, by simpa using hsz, ?_⟩⟩, hr.2⟩
    have : (cur.setIfInBounds i (.bool b)).toList.take (live.length * 1) = (cur.toList.take (live.length * 1)).set i (.bool b) := by
      simp [List.take_set]
    rw [List.length_set, this, htake]
    simp [boolCells, List.map_set]

theorem Row.boolAt {w : World} {own : Tags} {t : Nat} {e : TypeId} {v : Value} {live : List Bool} (h : Row w own t e 1 v live.length (boolCells live)) {i : Nat} {b : Bool} (hi : live[i]? = some b) :
    ∃ bL offL c, v = .slice (some ⟨bL, offL, none⟩) live.length c ∧ bL < w.heap.size ∧ own bL = t ∧ w.cell? ⟨bL, offL + i, none⟩ = some (.bool b) := by
  obtain ⟨hl, hb⟩ := List.getElem?_eq_some_iff.1 hi
  obtain ⟨A, c, rfl, _⟩ := h.form
  have hne : boolCells live ≠ [] := fun e => by
    have h0 : live.length = 0 := by simpa [boolCells] using congrArg List.length e
    omega
  obtain ⟨bL, offL, rfl, ho, hbL, hc⟩ := h.toOnesR.2 hne
  have g := hc i (by simpa [boolCells] using hl)
  simp only [boolCells, List.getElem_map, hb] at g
  exact ⟨bL, offL, c, rfl, hbL, ho, g⟩

set_option maxRecDepth 100000 in
set_option maxHeartbeats 1000000 in
theorem turn_same (w : World) (own : Tags) (t p : Nat) (ids : List Id) (live : List Bool) (x y : Int) (b : Bool) (i : Nat) (h : AxisAt w own t p ids live) (hx : idxI (x, y) ids = (i : Int)) (hi : live[i]? = some b) :
    Calls Try.prog 59 #[.pointer (some ⟨p, 0, none⟩), .agg #[.int .i64 x, .int .i64 y], .bool b] w (AP w own t p ids live (.int .i64 11)) := by
  have hsp := Lib.hid (fun o => spot_c (w.alloc o) own t p ids live x y (h.keep (Same.alloc o)))
  rw [hx] at hsp
  have H := Lib.hid h
  obtain ⟨vI, vL, vS, vA, vV, a⟩ := h.exI
  obtain ⟨bL, offL, c, rfl, hbL, _, g⟩ := a.rL.boolAt hi
  have c1 := a.blk.cell 1
  simp at c1
  have hp := a.blk.lt
  have hib : i < live.length := (List.getElem?_eq_some_iff.1 hi).1
  have hil : (i : Int) < (live.length : Int) := by omega
  have hi0 : (0 : Int) ≤ (i : Int) := by omega
  clear a hi hx h
  go_enter Try.func59, Try.ntmps59
  go_wp2_with fail
  refine (hsp.out _).mono ?_
  rintro e w1 ⟨rfl, hB⟩
  have c1' := (hB.cell (p := ⟨p, 1, none⟩) (by simp; omega)).trans ((World.cell?_alloc_lt _ _ _ (by exact hp)).trans c1)
  have g' := (hB.cell (p := ⟨bL, offL + i, none⟩) (by simp; omega)).trans ((World.cell?_alloc_lt _ _ _ (by exact hbL)).trans g)
  have HB := Lib.hid hB
  clear hB c1 g
  go_wp2
  go_ret
  exact ⟨rfl, own, ((Tr.refl own t w).alloc _).below HB.out, H.out.keep ((Same.alloc _).trans (by simp) (Same.below HB.out))⟩

set_option maxRecDepth 100000 in
set_option maxHeartbeats 1000000 in
theorem turn_other (w : World) (own : Tags) (t p : Nat) (ids : List Id) (live : List Bool) (x y : Int) (b : Bool) (i : Nat) (h : AxisAt w own t p ids live) (hx : idxI (x, y) ids = (i : Int)) (hi : live[i]? = some (!b)) :
    Calls Try.prog 59 #[.pointer (some ⟨p, 0, none⟩), .agg #[.int .i64 x, .int .i64 y], .bool b] w (AP w own t p ids (live.set i b) (.int .i64 0)) := by
  have hsp := Lib.hid (fun o => spot_c (w.alloc o) own t p ids live x y (h.keep (Same.alloc o)))
  rw [hx] at hsp
  have H := Lib.hid h
  obtain ⟨vI, vL, vS, vA, vV, a⟩ := h.exI
  obtain ⟨bL, offL, c, rfl, hbL, _, g⟩ := a.rL.boolAt hi
  have c1 := a.blk.cell 1
  simp at c1
  have hp := a.blk.lt
  have hib : i < live.length := (List.getElem?_eq_some_iff.1 hi).1
  have hil : (i : Int) < (live.length : Int) := by omega
  have hi0 : (0 : Int) ≤ (i : Int) := by omega
  have Ha := Lib.hid a
  clear a hi hx h
  go_enter Try.func59, Try.ntmps59
  go_wp2_with fail
  refine (hsp.out _).mono ?_
  rintro e w1 ⟨rfl, hB⟩
  have c1' := (hB.cell (p := ⟨p, 1, none⟩) (by simp; omega)).trans ((World.cell?_alloc_lt _ _ _ (by exact hp)).trans c1)
  have g' := (hB.cell (p := ⟨bL, offL + i, none⟩) (by simp; omega)).trans ((World.cell?_alloc_lt _ _ _ (by exact hbL)).trans g)
  have tr1 := Lib.hid (((Tr.refl own t w).alloc (.cells #[.int .i64 x, .int .i64 y] 24)).below hB)
  have a1 := Ha.out.keep ((Same.alloc (.cells #[.int .i64 x, .int .i64 y] 24)).trans (by simp) (Same.below hB))
  obtain ⟨f1, tr2, a2⟩ := a1.setLive b hib
  have HT := Lib.hid tr2
  have HA := Lib.hid a2
  clear hB c1 g a1 tr2 a2 Ha
  cases b
  · go_wp2_with fail
    refine (forget_c _ own t p ids _ _ _ _ _ _ HA.out).mono ?_
    rintro e w2 ⟨rfl, tr3, u3⟩
    have H3 := Lib.hid tr3
    have U3 := Lib.hid u3
    clear tr3 u3
    go_wp2
    go_ret
    exact ⟨rfl, own, (tr1.out.trans HT.out).trans H3.out, by simpa using H.out.len, H.out.le, H.out.nodup, H.out.nz, .inr U3.out⟩
  · go_wp2_with fail
    refine (forget_c _ own t p ids _ _ _ _ _ _ HA.out).mono ?_
    rintro e w2 ⟨rfl, tr3, u3⟩
    have H3 := Lib.hid tr3
    have U3 := Lib.hid u3
    clear tr3 u3
    go_wp2
    go_ret
    exact ⟨rfl, own, (tr1.out.trans HT.out).trans H3.out, by simpa using H.out.len, H.out.le, H.out.nodup, H.out.nz, .inr U3.out⟩

set_option maxRecDepth 100000 in
set_option maxHeartbeats 1000000 in
theorem turn_none (w : World) (own : Tags) (t p : Nat) (ids : List Id) (live : List Bool) (x y : Int) (b : Bool) (h : AxisAt w own t p ids live) (hx : idxI (x, y) ids = -1) :
    Calls Try.prog 59 #[.pointer (some ⟨p, 0, none⟩), .agg #[.int .i64 x, .int .i64 y], .bool b] w (AP w own t p ids live (.int .i64 3)) := by
  have hsp := Lib.hid (fun o => spot_c (w.alloc o) own t p ids live x y (h.keep (Same.alloc o)))
  have H := Lib.hid h
  rw [hx] at hsp
  clear hx h
  go_enter Try.func59, Try.ntmps59
  go_wp2_with (go_at_call 60; refine (hsp.out _).mono ?_; rintro e w1 ⟨rfl, hB⟩)
  go_ret
  exact ⟨rfl, own, ((Tr.refl own t w).alloc _).below hB, H.out.keep ((Same.alloc _).trans (by simp) (Same.below hB))⟩

theorem turn_c (w : World) (own : Tags) (t p : Nat) (ids : List Id) (live : List Bool) (x y : Int) (b : Bool) (h : AxisAt w own t p ids live) :
    Calls Try.prog 59 #[.pointer (some ⟨p, 0, none⟩), .agg #[.int .i64 x, .int .i64 y], .bool b] w (AP w own t p ids (turnL ids live (x, y) b) (.int .i64 (turnR ids live (x, y) b))) := by
  by_cases hm : (x, y) ∈ ids
  · have hi : ids.idxOf (x, y) < live.length := by rw [h.len]; exact List.idxOf_lt_length_iff.2 hm
    have hx : idxI (x, y) ids = (ids.idxOf (x, y) : Int) := by unfold idxI; rw [if_pos hm]
    have hg := List.getElem?_eq_getElem hi
    unfold turnR turnL
    rw [if_pos hm, if_pos hm, List.getD_eq_getElem?_getD, hg, Option.getD_some]
    by_cases hb : live[ids.idxOf (x, y)] = b
    · rw [if_pos hb, ← hb, List.set_getElem_self]
      exact turn_same w own t p ids live x y _ _ h hx hg
    · rw [if_neg hb]
      exact turn_other w own t p ids live x y b _ h hx (by rw [hg]; congr 1; cases b <;> simpa using hb)
  · unfold turnR turnL
    rw [if_neg hm, if_neg hm]
    exact turn_none w own t p ids live x y b h (by unfold idxI; rw [if_neg hm])

set_option maxRecDepth 100000 in
set_option maxHeartbeats 1000000 in
theorem delete_c (w : World) (own : Tags) (t p : Nat) (ids : List Id) (live : List Bool) (x y : Int) (h : AxisAt w own t p ids live) :
    Calls Try.prog 19 #[.pointer (some ⟨p, 0, none⟩), .agg #[.int .i64 x, .int .i64 y]] w (AP w own t p ids (turnL ids live (x, y) false) (.int .i64 (turnR ids live (x, y) false))) := by
  have hc := Lib.hid (fun o => turn_c (w.alloc o) own t p ids live x y false (h.keep (Same.alloc o)))
  clear h
  go_enter Try.func19, Try.ntmps19
  go_wp2_with (go_at_call 59; refine (hc.out _).mono ?_; rintro e w1 ⟨rfl, own1, tr1, h1⟩)
  go_ret
  exact ⟨rfl, own1, ((Tr.refl own t w).alloc _).trans tr1, h1⟩
set_option maxRecDepth 100000 in
set_option maxHeartbeats 1000000 in
theorem revive_c (w : World) (own : Tags) (t p : Nat) (ids : List Id) (live : List Bool) (x y : Int) (h : AxisAt w own t p ids live) :
    Calls Try.prog 23 #[.pointer (some ⟨p, 0, none⟩), .agg #[.int .i64 x, .int .i64 y]] w (AP w own t p ids (turnL ids live (x, y) true) (.int .i64 (turnR ids live (x, y) true))) := by
  have hc := Lib.hid (fun o => turn_c (w.alloc o) own t p ids live x y true (h.keep (Same.alloc o)))
  clear h
  go_enter Try.func23, Try.ntmps23
  go_wp2_with (go_at_call 59; refine (hc.out _).mono ?_; rintro e w1 ⟨rfl, own1, tr1, h1⟩)
  go_ret
  exact ⟨rfl, own1, ((Tr.refl own t w).alloc _).trans tr1, h1⟩
set_option maxRecDepth 100000 in
set_option maxHeartbeats 1000000 in
theorem has_c (w : World) (own : Tags) (t p : Nat) (ids : List Id) (live : List Bool) (x y : Int) (h : AxisAt w own t p ids live) :
    Calls Try.prog 21 #[.pointer (some ⟨p, 0, none⟩), .agg #[.int .i64 x, .int .i64 y]] w fun e w' => e = .returned (.bool (decide ((x, y) ∈ ids))) ∧ Below w.heap.size w w' := by
  have hsp := Lib.hid (fun o => spot_c (w.alloc o) own t p ids live x y (h.keep (Same.alloc o)))
  clear h
  by_cases hm : (x, y) ∈ ids
  · have hx : idxI (x, y) ids = (ids.idxOf (x, y) : Int) := by unfold idxI; rw [if_pos hm]
    rw [hx] at hsp
    generalize ids.idxOf (x, y) = i at *
    have hi0 : (0 : Int) ≤ (i : Int) := by omega
    have hd := Lib.hid (decide_eq_true hm)
    clear hx hm
    go_enter Try.func21, Try.ntmps21
    go_wp2_with (go_at_call 60; refine (hsp.out _).mono ?_; rintro e w1 ⟨rfl, hB⟩)
    go_ret
    exact ⟨by rw [hd.out]; rfl, (Below.refl _ _).alloc (Nat.le_refl _) _ |>.trans (hB.mono (by simp))⟩
  · have hx : idxI (x, y) ids = -1 := by unfold idxI; rw [if_neg hm]
    rw [hx] at hsp
    have hd := Lib.hid (decide_eq_false hm)
    clear hx hm
    go_enter Try.func21, Try.ntmps21
    go_wp2_with (go_at_call 60; refine (hsp.out _).mono ?_; rintro e w1 ⟨rfl, hB⟩)
    go_ret
    exact ⟨by rw [hd.out]; rfl, (Below.refl _ _).alloc (Nat.le_refl _) _ |>.trans (hB.mono (by simp))⟩
end Go.Proofs.Ytgmlhpkhecbkoaa
