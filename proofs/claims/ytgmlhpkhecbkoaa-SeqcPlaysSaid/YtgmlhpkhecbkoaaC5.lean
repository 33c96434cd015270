/-
  (*Axis).Len, At, Place. Condition: the axis lies in memory as AxisAt says.
-/
import Derived.Test.YtgmlhpkhecbkoaaC4
namespace Go.Proofs.Ytgmlhpkhecbkoaa
open Go.RowKit

/-- The same, and the axis is ready. -/
def RP (w : World) (own : Tags) (t p : Nat) (ids : List Id) (live : List Bool) (v : Value) (e : Ending) (w' : World) : Prop :=
  e = .returned v ∧ ∃ own', Tr own t w own' w' ∧ AxisAt w' own' t p ids live ∧ Ready w' own' t p ids live
theorem RP.toAP {w : World} {own : Tags} {t p : Nat} {ids : List Id} {live : List Bool} {v : Value} {e : Ending} {w' : World} (h : RP w own t p ids live v e w') : AP w own t p ids live v e w' := by
  obtain ⟨h1, own', h2, h3, _⟩ := h; exact ⟨h1, own', h2, h3⟩
theorem Ready.at_ {w : World} {own own' : Tags} {w' : World} {t p : Nat} {ids : List Id} {live : List Bool} (h : AxisAt w own t p ids live) (r : Ready w' own' t p ids live) : AxisAt w' own' t p ids live :=
  ⟨h.len, h.le, h.nodup, h.nz, .inl r⟩

set_option maxRecDepth 100000 in
set_option maxHeartbeats 1000000 in
theorem len_c (w : World) (own : Tags) (t p : Nat) (ids : List Id) (live : List Bool) (h : AxisAt w own t p ids live) :
    Calls Try.prog 20 #[.pointer (some ⟨p, 0, none⟩)] w (RP w own t p ids live (.int .i64 ((aliveOf ids live).length : Int))) := by
  have hr := Lib.hid (ready_c w own t p ids live h)
  have H := Lib.hid h
  clear h
  go_enter Try.func20, Try.ntmps20
  go_wp2_with fail
  refine hr.out.mono ?_
  rintro e w1 ⟨rfl, own1, tr1, r1⟩
  obtain ⟨vI, vL, s, g, vV, a, m⟩ := id r1
  obtain ⟨A, c, rfl, _⟩ := m.rV.form
  have c4 := a.blk.cell 4
  simp at c4
  have HT := Lib.hid tr1
  have HR := Lib.hid r1
  clear a m tr1 r1
  go_wp2
  go_ret
  exact ⟨rfl, own1, HT.out, HR.out.at_ H.out, HR.out⟩

/-- The two results of At. -/
def atR (l : List Id) (k : Int) : Value := if 0 ≤ k then (match l[k.toNat]? with | some z => .tuple #[.agg #[.int .i64 z.1, .int .i64 z.2], .bool true] | none => .tuple #[.agg #[.int .i64 0, .int .i64 0], .bool false]) else .tuple #[.agg #[.int .i64 0, .int .i64 0], .bool false]

set_option maxRecDepth 100000 in
set_option maxHeartbeats 1000000 in
theorem at_neg (w : World) (p : Option Addr) (k : Int) (hk : k < 0) :
    Calls Try.prog 22 #[.pointer p, .int .i64 k] w fun e w' => e = .returned (.tuple #[.agg #[.int .i64 0, .int .i64 0], .bool false]) ∧ Below w.heap.size w w' := by
  go_enter Try.func22, Try.ntmps22
  go_wp2_with fail
  exact bodyPost_ret (v := .tuple #[.agg #[.int .i64 0, .int .i64 0], .bool false]) (by simp [results, Try.results22, go_sem]) rfl ⟨rfl, (Below.refl _ _).alloc (Nat.le_refl _) _⟩

theorem new_kept {w w1 : World} {own own1 : Tags} {t : Nat} {e : TypeId} {cs : Array Value} (hf : Fresh own w) (ht : t ≠ 0) (tr1 : Tr own t (w.alloc (.cells cs e)) own1 w1) : Blk w1 w.heap.size e cs ∧ own1 w.heap.size = 0 := by
  have h0 : own w.heap.size = 0 := hf.new (Nat.le_refl _)
  exact ⟨(Blk.new w e cs).kept (tr1.block _ (by simp) (by rw [h0]; exact ht.symm)), by rw [tr1.same _ (by simp)]; exact h0⟩

set_option maxRecDepth 100000 in
set_option maxHeartbeats 1000000 in
theorem at_out (w : World) (own : Tags) (t p : Nat) (ids : List Id) (live : List Bool) (k : Int) (h : AxisAt w own t p ids live) (hf : Fresh own w) (ht : t ≠ 0) (h0 : 0 ≤ k) (hk : ((aliveOf ids live).length : Int) ≤ k) :
    Calls Try.prog 22 #[.pointer (some ⟨p, 0, none⟩), .int .i64 k] w (AP w own t p ids live (.tuple #[.agg #[.int .i64 0, .int .i64 0], .bool false])) := by
  have hc := Lib.hid (fun o => len_c (w.alloc o) own t p ids live (h.keep (Same.alloc o)))
  have HF := Lib.hid hf
  have HT0 := Lib.hid ht
  clear h hf ht
  go_enter Try.func22, Try.ntmps22
  go_wp2_with fail
  refine (hc.out _).mono ?_
  rintro e w1 ⟨rfl, own1, tr1, h1, r1⟩
  obtain ⟨hb, ho⟩ := new_kept HF.out HT0.out tr1
  have b0 := hb.cell 0
  have b1 := hb.cell 1
  have f0 := hb.frozen 0
  have f1 := hb.frozen 1
  simp at b0 b1
  have HB := Lib.hid hb
  have HT := Lib.hid tr1
  have H1 := Lib.hid h1
  have HO := Lib.hid ho
  clear hb tr1 h1 r1 ho
  go_wp2
  refine bodyPost_ret (v := .tuple #[.agg #[.int .i64 0, .int .i64 0], .bool false]) (by simp [results, Try.results22, go_sem, b0, b1]) rfl ⟨rfl, own1, ?_, ?_⟩
  · exact ((((Tr.refl own t w).alloc _).trans HT.out).setCell (.inr (Nat.le_refl _)) _).setCell (.inr (Nat.le_refl _)) _
  · exact (H1.out.keep (Same.setCell (by show own1 w.heap.size ≠ t; rw [HO.out]; exact HT0.out.symm) _)).keep (Same.setCell (by show own1 w.heap.size ≠ t; rw [HO.out]; exact HT0.out.symm) _)

set_option maxRecDepth 100000 in
set_option maxHeartbeats 1000000 in
theorem at_in (w : World) (own : Tags) (t p : Nat) (ids : List Id) (live : List Bool) (k : Nat) (z1 z2 : Int) (h : AxisAt w own t p ids live) (hf : Fresh own w) (ht : t ≠ 0) (hk : (aliveOf ids live)[k]? = some (z1, z2)) :
    Calls Try.prog 22 #[.pointer (some ⟨p, 0, none⟩), .int .i64 k] w (AP w own t p ids live (.tuple #[.agg #[.int .i64 z1, .int .i64 z2], .bool true])) := by
  have hc := Lib.hid (fun o => len_c (w.alloc o) own t p ids live (h.keep (Same.alloc o)))
  have HF := Lib.hid hf
  have HT0 := Lib.hid ht
  have hkl : k < (aliveOf ids live).length := (List.getElem?_eq_some_iff.1 hk).1
  have HK := Lib.hid hk
  have hle := Nat.le_trans (length_aliveOf ids live) h.le
  clear h hf ht hk
  go_enter Try.func22, Try.ntmps22
  go_wp2_with fail
  refine (hc.out _).mono ?_
  rintro e w1 ⟨rfl, own1, tr1, h1, r1⟩
  obtain ⟨hb, ho⟩ := new_kept HF.out HT0.out tr1
  have b0 := hb.cell 0
  have b1 := hb.cell 1
  have f0 := hb.frozen 0
  have f1 := hb.frozen 1
  simp at b0 b1
  obtain ⟨vI, vL, s, g, vV, a, m⟩ := id r1
  obtain ⟨A, c, rfl, _⟩ := m.rV.form
  have c4 := a.blk.cell 4
  simp at c4
  obtain ⟨b, off, rfl, _, _, hcs⟩ := m.rV.toIdsR.2 (fun e => by rw [e] at hkl; simp at hkl)
  obtain ⟨g1, g2⟩ := hcs k hkl
  have hz : (aliveOf ids live)[k] = (z1, z2) := by have := HK.out; rw [List.getElem?_eq_getElem hkl] at this; exact Option.some.inj this
  rw [hz] at g1 g2
  dsimp only at g1 g2
  have hpb : p ≠ w.heap.size := fun e => by have := a.tag; rw [e, ho] at this; exact HT0.out this.symm
  have hbb : b ≠ w.heap.size := fun e => by have := m.rV.2 b rfl; rw [e, ho] at this; exact HT0.out this.symm
  have HB := Lib.hid hb
  have HT := Lib.hid tr1
  have H1 := Lib.hid h1
  have HO := Lib.hid ho
  clear hb tr1 h1 r1 ho hcs hz a m
  go_wp2
  refine bodyPost_ret (v := .tuple #[.agg #[.int .i64 z1, .int .i64 z2], .bool true]) (by simp [results, Try.results22, go_sem, b0, b1]) rfl ⟨rfl, own1, ?_, ?_⟩
  · exact ((((Tr.refl own t w).alloc _).trans HT.out).setCell (.inr (Nat.le_refl _)) _).setCell (.inr (Nat.le_refl _)) _
  · exact (H1.out.keep (Same.setCell (by show own1 w.heap.size ≠ t; rw [HO.out]; exact HT0.out.symm) _)).keep (Same.setCell (by show own1 w.heap.size ≠ t; rw [HO.out]; exact HT0.out.symm) _)
theorem at_c (w : World) (own : Tags) (t p : Nat) (ids : List Id) (live : List Bool) (k : Int) (h : AxisAt w own t p ids live) (hf : Fresh own w) (ht : t ≠ 0) :
    Calls Try.prog 22 #[.pointer (some ⟨p, 0, none⟩), .int .i64 k] w (AP w own t p ids live (atR (aliveOf ids live) k)) := by
  unfold atR
  by_cases h0 : 0 ≤ k
  · rw [if_pos h0]
    obtain ⟨n, rfl⟩ := Int.eq_ofNat_of_zero_le h0
    rw [Int.toNat_natCast]
    cases hn : (aliveOf ids live)[n]? with
    | none => exact at_out w own t p ids live n h hf ht h0 (by have := List.getElem?_eq_none_iff.1 hn; omega)
    | some z => exact at_in w own t p ids live n z.1 z.2 h hf ht hn
  · rw [if_neg h0]
    exact (at_neg w _ k (by omega)).mono fun e w' ⟨he, hb⟩ => ⟨he, own, (Tr.refl own t w).below hb, h.keep (Same.below hb)⟩

/-- The two results of Place. -/
def placeR (ids : List Id) (live : List Bool) (k : Id) : Value :=
  if k ∈ ids ∧ live.getD (ids.idxOf k) false = true then .tuple #[(aheadOf live 0).getD (ids.idxOf k) (.int .i64 0), .bool true] else .tuple #[.int .i64 0, .bool false]
theorem aheadOf_get (live : List Bool) (c i : Nat) (hi : i < live.length) : ∃ q : Nat, (aheadOf live c)[i]? = some (.int .i64 (q : Int)) := by
  induction live generalizing c i with
  | nil => simp at hi
  | cons b bs ih =>
    cases i with
    | zero => exact ⟨c, by simp [aheadOf]⟩
    | succ i => simpa [aheadOf] using ih (if b then c + 1 else c) i (by simpa using hi)

set_option maxRecDepth 100000 in
set_option maxHeartbeats 1000000 in
theorem place_none (w : World) (own : Tags) (t p : Nat) (ids : List Id) (live : List Bool) (x y : Int) (h : AxisAt w own t p ids live) (hf : Fresh own w) (ht : t ≠ 0) (hm : (x, y) ∉ ids) :
    Calls Try.prog 18 #[.pointer (some ⟨p, 0, none⟩), .agg #[.int .i64 x, .int .i64 y]] w (AP w own t p ids live (.tuple #[.int .i64 0, .bool false])) := by
  have hr := Lib.hid (fun o => ready_c (w.alloc o) own t p ids live (h.keep (Same.alloc o)))
  have H := Lib.hid h
  have HF := Lib.hid hf
  have HT0 := Lib.hid ht
  have hk := Lib.hid (getKV_spots (x, y) ids 0)
  rw [if_neg hm] at hk
  clear h hf ht hm
  go_enter Try.func18, Try.ntmps18
  go_wp2_with fail
  refine (hr.out _).mono ?_
  rintro e w1 ⟨rfl, own1, tr1, r1⟩
  obtain ⟨hb, ho⟩ := new_kept HF.out HT0.out tr1
  have b0 := hb.cell 0
  have b1 := hb.cell 1
  simp at b0 b1
  obtain ⟨vI, vL, s, g, vV, a, m⟩ := id r1
  have c2 := a.blk.cell 2
  simp at c2
  have hlk := fun (nq : Nat) => MapIs.look (w := w1.drewN nq) m.map Try.underlying70 (zero3 _) (x, y) true
  simp only [idv, if_true, hk.out, Option.getD_none, Option.isSome_none] at hlk
  have HT := Lib.hid tr1
  have HR := Lib.hid r1
  clear hb tr1 r1 ho a m
  go_wp2
  go_quiet (fail)
  go_wp2
  go_ret2
  exact ⟨rfl, own1, (((Tr.refl own t w).alloc _).trans HT.out).drewN _, (HR.out.at_ H.out).keep (Same.drewN _)⟩

set_option maxRecDepth 100000 in
set_option maxHeartbeats 1000000 in
theorem place_some (w : World) (own : Tags) (t p : Nat) (ids : List Id) (live : List Bool) (x y : Int) (i : Nat) (b : Bool) (q : Int) (h : AxisAt w own t p ids live) (hf : Fresh own w) (ht : t ≠ 0) (hm : (x, y) ∈ ids) (hi : ids.idxOf (x, y) = i) (hl : live[i]? = some b)
    (hq : (aheadOf live 0)[i]? = some (.int .i64 q)) :
    Calls Try.prog 18 #[.pointer (some ⟨p, 0, none⟩), .agg #[.int .i64 x, .int .i64 y]] w (AP w own t p ids live (.tuple #[.int .i64 (if b then q else 0), .bool b])) := by
  have hr := Lib.hid (fun o => ready_c (w.alloc o) own t p ids live (h.keep (Same.alloc o)))
  have H := Lib.hid h
  have HF := Lib.hid hf
  have HT0 := Lib.hid ht
  have hk := Lib.hid (getKV_spots (x, y) ids 0)
  rw [if_pos hm, hi, Nat.zero_add] at hk
  have HL := Lib.hid hl
  have HQ := Lib.hid hq
  have hil : (i : Int) < (live.length : Int) := by have := (List.getElem?_eq_some_iff.1 hl).1; omega
  have hi0 : (0 : Int) ≤ (i : Int) := by omega
  clear h hf ht hm hi hl hq
  cases b
  all_goals
    go_enter Try.func18, Try.ntmps18
    go_wp2_with fail
    refine (hr.out _).mono ?_
    rintro e w1 ⟨rfl, own1, tr1, r1⟩
    obtain ⟨hb, ho⟩ := new_kept HF.out HT0.out tr1
    have b0 := hb.cell 0
    have b1 := hb.cell 1
    simp at b0 b1
    obtain ⟨vI, vL, s, g, vV, a, m⟩ := id r1
    obtain ⟨bL, offL, c, rfl, hbL, _, g1⟩ := a.rL.boolAt HL.out
    have c1 := a.blk.cell 1
    have c2 := a.blk.cell 2
    have c3 := a.blk.cell 3
    have g3 := m.ahead.cell i
    simp at c1 c2 c3
    rw [List.getElem?_toArray, HQ.out] at g3
    have hlk := fun (nq : Nat) => MapIs.look (w := w1.drewN nq) m.map Try.underlying70 (zero3 _) (x, y) true
    simp only [idv, if_true, hk.out, Option.getD_some, Option.isSome_some] at hlk
    have HT := Lib.hid tr1
    have HR := Lib.hid r1
    clear hb tr1 r1 ho a m
    go_wp2
    go_quiet (fail)
    go_wp2
    go_ret2
    exact ⟨rfl, own1, (((Tr.refl own t w).alloc _).trans HT.out).drewN _, (HR.out.at_ H.out).keep (Same.drewN _)⟩

theorem place_c (w : World) (own : Tags) (t p : Nat) (ids : List Id) (live : List Bool) (x y : Int) (h : AxisAt w own t p ids live) (hf : Fresh own w) (ht : t ≠ 0) :
    Calls Try.prog 18 #[.pointer (some ⟨p, 0, none⟩), .agg #[.int .i64 x, .int .i64 y]] w (AP w own t p ids live (placeR ids live (x, y))) := by
  unfold placeR
  by_cases hm : (x, y) ∈ ids
  · have hi : ids.idxOf (x, y) < live.length := by rw [h.len]; exact List.idxOf_lt_length_iff.2 hm
    obtain ⟨q, hq⟩ := aheadOf_get live 0 _ hi
    have hg := List.getElem?_eq_getElem hi
    have := place_some w own t p ids live x y _ _ q h hf ht hm rfl hg hq
    rw [List.getD_eq_getElem?_getD, hg, Option.getD_some, List.getD_eq_getElem?_getD, hq, Option.getD_some]
    cases hb : live[ids.idxOf (x, y)] with
    | true => rw [hb] at this; rw [if_pos ⟨hm, rfl⟩]; exact this
    | false => rw [hb] at this; rw [if_neg (by simp)]; exact this
  · rw [if_neg (fun e => hm e.1)]
    exact place_none w own t p ids live x y h hf ht hm
end Go.Proofs.Ytgmlhpkhecbkoaa
