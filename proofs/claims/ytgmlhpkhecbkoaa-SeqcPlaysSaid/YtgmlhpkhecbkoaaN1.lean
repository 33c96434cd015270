/-
  What the laws on deeds keep: both axes, the deeds, the boxes of the ids. No condition.
-/
import Derived.Test.YtgmlhpkhecbkoaaN0
import Derived.Test.YtgmlhpkhecbkoaaH4
namespace Go.Proofs.Ytgmlhpkhecbkoaa
open Go.RowKit

structure SE (w : World) (own : Tags) (qa qx : Nat) (ids : List Id) (live : List Bool) (idx : List Id) (lix : List Bool) (D : Option Addr) (ds : List Deed) (B : List Id) (wr : World) : Prop where
  clean : Clean w own wr
  a : AxisAt wr own 1 qa ids live
  x : RefAt wr own 2 qx idx lix
  d : ManyR deedCells 5 wr own 0 D ds
  b : ∀ (k : Nat) z, B[k]? = some z → Box wr own (w.heap.size + k) 24 #[.int .i64 z.1, .int .i64 z.2]
section
variable {w wr w' : World} {own own' : Tags} {qa qx t : Nat} {ids ids' idx idx' : List Id} {live live' lix lix' : List Bool} {D : Option Addr} {ds : List Deed} {B : List Id}
theorem SE.next (h : SE w own qa qx ids live idx lix D ds B wr) (k : Below wr.heap.size wr w') : SE w own qa qx ids live idx lix D ds B w' :=
  ⟨h.clean.next k, h.a.next k, h.x.next k, h.d.keep k.size (Same.below k), fun j z hz => (h.b j z hz).next k⟩
theorem SE.alloc (h : SE w own qa qx ids live idx lix D ds B wr) (o : Obj) : SE w own qa qx ids live idx lix D ds B (wr.alloc o) := h.next ((Below.refl _ _).alloc (Nat.le_refl _) o)
theorem SE.drew (h : SE w own qa qx ids live idx lix D ds B wr) : SE w own qa qx ids live idx lix D ds B wr.drew := h.next ((Below.refl _ _).drew)
theorem SE.drewN (h : SE w own qa qx ids live idx lix D ds B wr) (n : Nat) : SE w own qa qx ids live idx lix D ds B (wr.drewN n) := h.next ⟨rfl, rfl, rfl, Nat.le_refl _, fun _ _ => rfl⟩
theorem SE.trA (h : SE w own qa qx ids live idx lix D ds B wr) (k : Tr own 1 wr own' w') (a' : AxisAt w' own' 1 qa ids' live') : SE w own' qa qx ids' live' idx lix D ds B w' :=
  ⟨h.clean.tr k (by decide), a', h.x.other k (by decide), h.d.keep k.size (k.toSame (by decide)), fun j z hz => (h.b j z hz).tr k (by decide)⟩
theorem SE.trX (h : SE w own qa qx ids live idx lix D ds B wr) (k : Tr own 2 wr own' w') (x' : RefAt w' own' 2 qx idx' lix') : SE w own' qa qx ids live idx' lix' D ds B w' :=
  ⟨h.clean.tr k (by decide), h.a.other k (by decide), x', h.d.keep k.size (k.toSame (by decide)), fun j z hz => (h.b j z hz).tr k (by decide)⟩
theorem SE.tr (h : SE w own qa qx ids live idx lix D ds B wr) (k : Tr own t wr own' w') (h0 : t ≠ 0) (h1 : 1 ≠ t) (h2 : 2 ≠ t) : SE w own' qa qx ids live idx lix D ds B w' :=
  ⟨h.clean.tr k h0, h.a.other k h1, h.x.other k h2, h.d.keep k.size (k.toSame (Ne.symm h0)), fun j z hz => (h.b j z hz).tr k h0⟩
/-- Behind a deed on both. -/
theorem SE.done (h : SE w own qa qx ids live ids live D ds B wr) {e : Ending} (k : DoP wr own 1 2 qa qx ids' live' e w') : e = .returned (.bool true) ∧ ∃ own', SE w own' qa qx ids' live' ids' live' D ds B w' := by
  obtain ⟨he, own1, w1, own2, t1, t2, a2, x2⟩ := k
  exact ⟨he, own2, (h.clean.tr t1 (by decide)).tr t2 (by decide), a2, x2, (h.d.keep t1.size (t1.toSame (by decide))).keep t2.size (t2.toSame (by decide)), fun j z hz => ((h.b j z hz).tr t1 (by decide)).tr t2 (by decide)⟩
/-- A box, cell by cell. -/
theorem SE.box (h : SE w own qa qx ids live idx lix D ds B wr) (k : Nat) (z : Id) (hz : B[k]? = some z) : wr.cell? ⟨w.heap.size + k, 0, none⟩ = some (.int .i64 z.1) ∧ wr.cell? ⟨w.heap.size + k, 1, none⟩ = some (.int .i64 z.2) :=
  ⟨(h.b k z hz).blk.cell 0, (h.b k z hz).blk.cell 1⟩
/-- A deed, cell by cell. -/
theorem SE.deed (h : SE w own qa qx ids live idx lix D ds B wr) {k : Nat} (hk : k < ds.length) : ∃ (b off : Nat) (d : Deed), D = some ⟨b, off, none⟩ ∧ wr.cell? ⟨b, off + k * 5, none⟩ = some (.int .i64 d.kind) ∧ wr.cell? ⟨b, off + k * 5 + 1, none⟩ = some (.int .i64 d.behind.1) ∧ wr.cell? ⟨b, off + k * 5 + 2, none⟩ = some (.int .i64 d.behind.2) ∧ wr.cell? ⟨b, off + k * 5 + 3, none⟩ = some (.int .i64 d.id.1) ∧ wr.cell? ⟨b, off + k * 5 + 4, none⟩ = some (.int .i64 d.id.2) := by
  obtain ⟨b, off, hD, _, _, hc⟩ := h.d (fun e => by rw [e] at hk; simp at hk)
  exact ⟨b, off, ds[k], hD, hc k hk 0 _ rfl, hc k hk 1 _ rfl, hc k hk 2 _ rfl, hc k hk 3 _ rfl, hc k hk 4 _ rfl⟩
end
end Go.Proofs.Ytgmlhpkhecbkoaa
