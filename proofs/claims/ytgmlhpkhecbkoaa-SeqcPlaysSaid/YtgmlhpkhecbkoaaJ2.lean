/-
  (*Axis).Insert: its contract. Condition: the axis lies in memory as AxisAt says.
-/
import Derived.Test.YtgmlhpkhecbkoaaJ1
namespace Go.Proofs.Ytgmlhpkhecbkoaa
open Go.RowKit

theorem same2 {s : Nat} {own : Tags} {w : World} (o o' : Obj) : Same s own w own ((w.alloc o).alloc o') := (Same.alloc o).trans (by simp) (Same.alloc o')

set_option maxRecDepth 100000 in
set_option maxHeartbeats 2000000 in
theorem ins_zero (w : World) (own : Tags) (t p : Nat) (ids : List Id) (live : List Bool) (b1 b2 : Int) (h : AxisAt w own t p ids live) :
    Calls Try.prog 32 #[.pointer (some ⟨p, 0, none⟩), .agg #[.int .i64 b1, .int .i64 b2], .agg #[.int .i64 0, .int .i64 0]] w (AP w own t p ids live (.int .i64 1)) := by
  have H := Lib.hid h
  have hq : ideq 0 0 0 0 = true := rfl
  clear h
  go_enter Try.func32, Try.ntmps32
  go_wp2
  go_ret
  exact ⟨rfl, own, ((Tr.refl own t w).alloc _).alloc _, H.out.keep (same2 _ _)⟩

set_option maxRecDepth 100000 in
set_option maxHeartbeats 2000000 in
theorem ins_dup (w : World) (own : Tags) (t p : Nat) (ids : List Id) (live : List Bool) (b1 b2 x y : Int) (i : Nat) (h : AxisAt w own t p ids live) (hz : (x, y) ≠ (0, 0)) (hx : idxI (x, y) ids = (i : Int)) :
    Calls Try.prog 32 #[.pointer (some ⟨p, 0, none⟩), .agg #[.int .i64 b1, .int .i64 b2], .agg #[.int .i64 x, .int .i64 y]] w (AP w own t p ids live (.int .i64 4)) := by
  have hsp := Lib.hid (fun o o' => spot_c ((w.alloc o).alloc o') own t p ids live x y (h.keep (same2 o o')))
  rw [hx] at hsp
  have H := Lib.hid h
  have hq : ideq x y 0 0 = false := ideq_false.2 (fun ⟨a, b⟩ => hz (by rw [a, b]))
  have hi0 : (0 : Int) ≤ (i : Int) := by omega
  clear h hx hz
  go_enter Try.func32, Try.ntmps32
  go_wp2_with fail
  refine (hsp.out _ _).mono ?_
  rintro e w1 ⟨rfl, hB⟩
  have HB := Lib.hid hB
  clear hB
  go_wp2
  go_ret
  exact ⟨rfl, own, (((Tr.refl own t w).alloc _).alloc _).below HB.out, H.out.keep ((same2 _ _).trans (by simp; omega) (Same.below HB.out))⟩

set_option maxRecDepth 100000 in
set_option maxHeartbeats 2000000 in
theorem ins_out (w : World) (own : Tags) (t p : Nat) (ids : List Id) (live : List Bool) (b1 b2 x y : Int) (h : AxisAt w own t p ids live) (hz : (x, y) ≠ (0, 0)) (hx : idxI (x, y) ids = -1) (hb : (b1, b2) ≠ (0, 0)) (hbx : idxI (b1, b2) ids = -1) :
    Calls Try.prog 32 #[.pointer (some ⟨p, 0, none⟩), .agg #[.int .i64 b1, .int .i64 b2], .agg #[.int .i64 x, .int .i64 y]] w (AP w own t p ids live (.int .i64 3)) := by
  have hsp := Lib.hid (fun o o' => spot_c ((w.alloc o).alloc o') own t p ids live x y (h.keep (same2 o o')))
  have hsq := Lib.hid (fun (o o' : Obj) (w1 : World) (hB : Below ((w.alloc o).alloc o').heap.size ((w.alloc o).alloc o') w1) => spot_c w1 own t p ids live b1 b2 ((h.keep (same2 o o')).keep (Same.below hB)))
  rw [hx] at hsp
  rw [hbx] at hsq
  have H := Lib.hid h
  have hq : ideq x y 0 0 = false := ideq_false.2 (fun ⟨a, b⟩ => hz (by rw [a, b]))
  have hq2 : ideq b1 b2 0 0 = false := ideq_false.2 (fun ⟨a, b⟩ => hb (by rw [a, b]))
  have hbox := Lib.hid (Blk.new w 24 #[.int .i64 b1, .int .i64 b2])
  clear h hx hz hb hbx
  go_enter Try.func32, Try.ntmps32
  go_wp2_with fail
  refine (hsp.out _ _).mono ?_
  rintro e w1 ⟨rfl, hB⟩
  have hb1 := (hbox.out.alloc (.cells #[.int .i64 x, .int .i64 y] 24)).kept (hB.block w.heap.size (by simp; omega))
  have d0 := hb1.cell 0
  have d1 := hb1.cell 1
  simp at d0 d1
  have HB := Lib.hid hB
  clear hB hb1
  go_wp2_with fail
  refine (hsq.out _ _ _ HB.out).mono ?_
  rintro e w2 ⟨rfl, hB⟩
  have HC := Lib.hid hB
  clear hB
  go_wp2
  go_ret
  exact ⟨rfl, own, ((((Tr.refl own t w).alloc _).alloc _).below HB.out).below HC.out, (H.out.keep ((same2 _ _).trans (by simp; omega) (Same.below HB.out))).keep (Same.below HC.out)⟩
end Go.Proofs.Ytgmlhpkhecbkoaa
