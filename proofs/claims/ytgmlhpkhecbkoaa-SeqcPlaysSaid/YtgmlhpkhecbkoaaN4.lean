/-
  (*counterpaneref03.Axis).Order, Between, Place: their contracts. Condition: the axis lies in memory as RefAt says.
-/
import Derived.Test.YtgmlhpkhecbkoaaN1
namespace Go.Proofs.Ytgmlhpkhecbkoaa
open Go.RowKit

theorem drop_take_succ {α : Type} (l : List α) (lo k : Nat) (z : α) (hl : lo ≤ k) (hz : l[k]? = some z) : (l.take (k + 1)).drop lo = (l.take k).drop lo ++ [z] := by
  obtain ⟨h1, h2⟩ := List.getElem?_eq_some_iff.1 hz
  rw [List.take_succ_eq_append_getElem h1, List.drop_append_of_le_length (by simp; omega), h2]
theorem seg_succ (ids : List Id) (live : List Bool) (h : live.length = ids.length) (lo k : Nat) (z : Id) (b : Bool) (hl : lo ≤ k) (hz : ids[k]? = some z) (hb : live[k]? = some b) :
    seg ids live lo (k + 1) = seg ids live lo k ++ (if b then [z] else []) := by
  unfold seg
  rw [drop_take_succ ids lo k z hl hz, drop_take_succ live lo k b hl hb, aliveOf_append _ _ _ _ (by simp [h])]
  cases b <;> rfl
theorem seg_self (ids : List Id) (live : List Bool) (lo : Nat) : seg ids live lo lo = [] := by
  unfold seg
  rw [List.drop_eq_nil_of_le (by simp; omega)]; rfl
theorem length_seg (ids : List Id) (live : List Bool) (lo hi : Nat) : (seg ids live lo hi).length ≤ ids.length := by
  unfold seg
  refine Nat.le_trans (length_aliveOf _ _) ?_
  simp; omega

/-- A list that a call makes, of the tag u. -/
structure OR (w : World) (own : Tags) (u : Nat) (l : List Id) (own1 : Tags) (v : Value) (wr : World) : Prop where
  tr : Tr own u w own1 wr
  row : Row wr own1 u 24 2 v l.length (idCells l)
section
variable {w wr w' : World} {own own1 : Tags} {u : Nat} {l l' : List Id} {v v' : Value}
theorem OR.start (w : World) (own : Tags) (u : Nat) : OR w own u [] own (.slice none 0 0) w := ⟨Tr.refl _ _ _, Row.nil _ _ _ _ _⟩
theorem OR.next (h : OR w own u l own1 v wr) (k : Below wr.heap.size wr w') : OR w own u l own1 v w' := ⟨h.tr.below k, h.row.keep (Same.below k)⟩
theorem OR.alloc (h : OR w own u l own1 v wr) (o : Obj) : OR w own u l own1 v (wr.alloc o) := h.next ((Below.refl _ _).alloc (Nat.le_refl _) o)
theorem OR.grow (h : OR w own u l own1 v wr) (hg : wr.grownBy w' v.ownBlock) (hr : w'.ownsRow 0 24 2 v' l'.length (idCells l')) (hat : v'.ownBlock = v.ownBlock ∨ v'.ownBlock = some wr.heap.size) : ∃ own', OR w own u l' own' v' w' := by
  obtain ⟨own2, tr2, _, r2⟩ := h.row.app (Tr.refl own1 u wr) hg hr (hat.imp id (fun e => ⟨e, (hr.lt _ e).2⟩))
  exact ⟨own2, h.tr.trans tr2, r2⟩
end

/-- What is read of the document's axis at one place. -/
theorem RefAt.look {w : World} {own : Tags} {t p : Nat} {ids : List Id} {live : List Bool} (h : RefAt w own t p ids live) {k : Nat} (hk : k < ids.length) :
    ∃ bI oI cI bL oL cL z1 z2 b, w.cell? ⟨p, 0, none⟩ = some (.slice (some ⟨bI, oI, none⟩) ids.length cI) ∧ w.cell? ⟨p, 1, none⟩ = some (.slice (some ⟨bL, oL, none⟩) ids.length cL) ∧
      w.cell? ⟨bI, oI + k * 2, none⟩ = some (.int .i64 z1) ∧ w.cell? ⟨bI, oI + k * 2 + 1, none⟩ = some (.int .i64 z2) ∧ w.cell? ⟨bL, oL + k, none⟩ = some (.bool b) ∧ ids[k]? = some (z1, z2) ∧ live[k]? = some b := by
  obtain ⟨hlen, _, vI, vL, a⟩ := h
  have hl : live[k]? = some live[k] := List.getElem?_eq_getElem (by omega)
  obtain ⟨bL, oL, cL, rfl, _, _, g⟩ := a.rL.boolAt hl
  obtain ⟨AI, cI, rfl, _⟩ := a.rI.form
  obtain ⟨bI, oI, rfl, _, _, hc⟩ := a.rI.toIdsR.2 (fun e => by rw [e] at hk; simp at hk)
  obtain ⟨g1, g2⟩ := hc k hk
  have c0 := a.blk.cell 0
  have c1 := a.blk.cell 1
  simp at c0 c1
  rw [hlen] at c1
  exact ⟨bI, oI, cI, bL, oL, cL, _, _, _, c0, c1, g1, g2, g, List.getElem?_eq_getElem hk, hl⟩
theorem RefAt.head {w : World} {own : Tags} {t p : Nat} {ids : List Id} {live : List Bool} (h : RefAt w own t p ids live) : ∃ A c, w.cell? ⟨p, 0, none⟩ = some (.slice A ids.length c) := by
  obtain ⟨_, _, vI, vL, a⟩ := h
  obtain ⟨AI, cI, rfl, _⟩ := a.rI.form
  have c0 := a.blk.cell 0
  simp at c0
  exact ⟨AI, cI, c0⟩

set_option maxRecDepth 100000 in
set_option maxHeartbeats 2000000 in
theorem rorder_c (w : World) (own : Tags) (t u p : Nat) (ids : List Id) (live : List Bool) (h : RefAt w own t p ids live) (htu : t ≠ u) :
    Calls Try.prog 39 #[.pointer (some ⟨p, 0, none⟩)] w (ListP w own u (aliveOf ids live)) := by
  have hle := h.le
  have HH := Lib.hid h
  have Hall := Lib.hid (seg_all ids live h.len)
  have Hlen := Lib.hid h.len
  have Htu := Lib.hid htu
  clear h htu
  go_enter Try.func39, Try.ntmps39
  go_wp2_with fail
  go_loopw [3, 4] (fun v i wr => ∃ (k : Nat) (own1 : Tags), k ≤ ids.length ∧ i = .int .i64 k ∧ OR w own u (seg ids live 0 k) own1 v wr) (fun _ i _ => ids.length - (intOf i).toNat)
  case atStart => exact ⟨0, own, Nat.zero_le _, rfl, by rw [seg_self]; exact OR.start _ _ _⟩
  case round =>
    obtain ⟨k, own1, hk, rfl, o0⟩ := hrel
    have O0 := Lib.hid o0
    have H0 := Lib.hid (HH.out.other o0.tr Htu.out)
    clear o0
    by_cases hlt : k < ids.length
    · obtain ⟨bI, oI, cI, bL, oL, cL, z1, z2, b, c0, c1, g1, g2, g3, hz, hb⟩ := H0.out.look hlt
      have Hs := Lib.hid (seg_succ ids live Hlen.out 0 k (z1, z2) b (Nat.zero_le _) hz hb)
      have hk0 : (0 : Int) ≤ (k : Int) := by omega
      have hkn : (k : Int) < (ids.length : Int) := by omega
      clear hz hb
      cases b
      · go_wp2_with fail
        go_roundw
        case rel => exact ⟨k + 1, own1, by omega, by go_num, by rw [Hs.out]; simpa using O0.out⟩
        case measure => simp [intOf]; omega
      · obtain ⟨i0, hi, hz0, hz1, hz2⟩ := info_parts Try.info24
        have O1 := Lib.hid (O0.out.alloc (.cells #[.int .i64 z1, .int .i64 z2] 24))
        have hln := Lib.hid (length_seg ids live 0 k)
        obtain ⟨A, c, hv, _⟩ := O0.out.row.form
        subst hv
        go_wp2_with (at_builtin; refine wpList_append_own_at _ rfl _ _ _ rfl 0 24 i0 _ 2 16 Try.underlying22 hi hz0 hz1 hz2 rfl (by omega) _ _ _ rfl O1.out.row.1 ⟨wr.heap.size, 0, none⟩ 1 1 [.int .i64 z1, .int .i64 z2] rfl rfl (news_new wr wr.heap.size rfl #[.int .i64 z1, .int .i64 z2] 24) (by simp [Value.oneCell']) (by have := hln.out; simp only [maxLen]; omega) (by have := hln.out; omega) (Nat.zero_le _) ?_; intro v' w2 hown2 hgrow2 _ hat2)
        obtain ⟨ow2, f2⟩ := O1.out.grow (l' := seg ids live 0 (k + 1)) hgrow2 (by rw [Hs.out]; simpa [idCells_append, idCells] using hown2) hat2
        go_roundw
        case rel => exact ⟨k + 1, ow2, by omega, by go_num, f2⟩
        case measure => simp [intOf]; omega
    · have hkk : k = ids.length := by omega
      subst hkk
      obtain ⟨A, c, c0⟩ := H0.out.head
      have hkn : ¬ ((ids.length : Int) < (ids.length : Int)) := by omega
      go_wp2_with fail
      go_ret
      refine ⟨_, own1, rfl, O0.out.tr, ?_⟩
      rw [← Hall.out]
      exact O0.out.row
end Go.Proofs.Ytgmlhpkhecbkoaa
