/-
  counterpanelaw03.do: a deed on both axes. Condition: both lie in memory, with the same ids.
-/
import Derived.Test.YtgmlhpkhecbkoaaM1
import Derived.Test.YtgmlhpkhecbkoaaH3
namespace Go.Proofs.Ytgmlhpkhecbkoaa
open Go.RowKit

/-- A deed. -/
structure Deed where
  kind : Int
  behind : Id
  id : Id
def deedv (d : Deed) : Value := .agg #[.int .i64 d.kind, .int .i64 d.behind.1, .int .i64 d.behind.2, .int .i64 d.id.1, .int .i64 d.id.2]
def doI (ids : List Id) (d : Deed) : List Id := if d.kind = 0 then insIds ids d.behind d.id else ids
def doL (ids : List Id) (live : List Bool) (d : Deed) : List Bool :=
  if d.kind = 0 then insLive ids live d.behind d.id
  else if d.kind = 1 then turnL ids live d.id false
  else if d.kind = 2 then turnL ids live d.id true
  else live

/-- Behind a call of do: both axes as the deed leaves them. -/
def DoP (w : World) (own : Tags) (t u p q : Nat) (ids : List Id) (live : List Bool) (e : Ending) (w2 : World) : Prop :=
  e = .returned (.bool true) ∧ ∃ own1 w1 own2, Tr own t w own1 w1 ∧ Tr own1 u w1 own2 w2 ∧ AxisAt w2 own2 t p ids live ∧ RefAt w2 own2 u q ids live

theorem deed_cells {w : World} {own : Tags} {X : Nat} {k b1 b2 x y : Int} (h : Box w own X 60 #[.int .i64 k, .int .i64 b1, .int .i64 b2, .int .i64 x, .int .i64 y]) :
    AllCells w [(⟨X, 1, none⟩, .int .i64 b1), (⟨X, 2, none⟩, .int .i64 b2), (⟨X, 3, none⟩, .int .i64 x), (⟨X, 4, none⟩, .int .i64 y)] :=
  ⟨h.blk.cell 1, h.blk.cell 2, h.blk.cell 3, h.blk.cell 4, trivial⟩


set_option maxRecDepth 100000 in
set_option maxHeartbeats 2000000 in
theorem do_ins (w : World) (own : Tags) (t u p q : Nat) (ids : List Id) (live : List Bool) (b1 b2 x y : Int) (ht : t ≠ 0) (hu0 : u ≠ 0) (htu : t ≠ u) (hf : Fresh own w) (ha : AxisAt w own t p ids live) (hx : RefAt w own u q ids live) :
    Calls Try.prog 35 #[.pointer (some ⟨p, 0, none⟩), .pointer (some ⟨q, 0, none⟩), .agg #[.int .i64 0, .int .i64 b1, .int .i64 b2, .int .i64 x, .int .i64 y]] w (DoP w own t u p q (insIds ids (b1, b2) (x, y)) (insLive ids live (b1, b2) (x, y))) := by
  have X0 := Lib.hid (Box.new hf 60 #[.int .i64 0, .int .i64 b1, .int .i64 b2, .int .i64 x, .int .i64 y])
  have A0 := Lib.hid (ha.alloc (.cells #[.int .i64 0, .int .i64 b1, .int .i64 b2, .int .i64 x, .int .i64 y] 60))
  have R0 := Lib.hid (hx.next ((Below.refl _ _).alloc (Nat.le_refl _) (.cells #[.int .i64 0, .int .i64 b1, .int .i64 b2, .int .i64 x, .int .i64 y] 60)))
  have T0 := Lib.hid ((Tr.refl own t w).alloc (.cells #[.int .i64 0, .int .i64 b1, .int .i64 b2, .int .i64 x, .int .i64 y] 60))
  have Ht := Lib.hid ht
  have Hu := Lib.hid hu0
  have Htu := Lib.hid htu
  clear hf ha hx ht hu0 htu
  go_enter Try.func35, Try.ntmps35
  go_wp2_with fail
  generalize w.alloc (.cells #[.int .i64 0, .int .i64 b1, .int .i64 b2, .int .i64 x, .int .i64 y] 60) = W at *
  refine region_picked [(⟨w.heap.size, 1, none⟩, .int .i64 b1), (⟨w.heap.size, 2, none⟩, .int .i64 b2), (⟨w.heap.size, 3, none⟩, .int .i64 x), (⟨w.heap.size, 4, none⟩, .int .i64 y)] [0, 1, 2, 3, 4, 6, 7, 8, 9, 10] [0,1,2,3,4,5,6,7,8,9,10,11,12,13] 4 (by kernel_rfl) (by kernel_rfl) (by kernel_rfl) (by kernel_rfl) (by kernel_rfl) (by kernel_rfl) (fun _ _ _ _ _ h => h) (deed_cells (X0.out.drewN 1)) ?_
  intro hne hu
  simp only [AllCells] at hu
  simp only [pick, List.take_succ_cons, List.take_zero, List.drop_succ_cons, List.drop_zero, List.cons_append, List.nil_append]
  repeat (go_big_quiet_step (fail))
  refine wpQuiet_nil ?_
  clear hne hu
  refine anyN_oneL 5 (by kernel_rfl) ?_
  simp only [List.take_succ_cons, List.take_zero, List.drop_succ_cons, List.drop_zero]
  go_wp2_with fail
  refine (insert_c W.drew own t p ids live b1 b2 x y (A0.out.keep Same.drew)).mono ?_
  rintro e w1 ⟨rfl, own1, tr1, a1⟩
  have T1 := Lib.hid (T0.out.drew.trans tr1)
  have X1 := Lib.hid ((X0.out.drewN 1).tr tr1 Ht.out)
  have A1 := Lib.hid a1
  have R1 := Lib.hid ((R0.out.keep Same.drew).other tr1 Htu.out.symm)
  clear tr1 a1 X0 A0 R0 T0
  generalize hr : insR ids (b1, b2) (x, y) = r at *
  have Hr := Lib.hid hr
  clear hr
  have hrr : (r == r) = true := by simp
  go_wp2_with fail
  refine And.intro (fun _ => deed_cells X1.out) ?_
  refine anyN_oneL 11 (by kernel_rfl) ?_
  simp only [List.take_succ_cons, List.take_zero, List.drop_succ_cons, List.drop_zero]
  go_wp2_with fail
  refine (rinsert_c w1 own1 u q ids live b1 b2 x y R1.out).mono ?_
  rintro e w2 ⟨rfl, own2, tr2, x2⟩
  rw [Hr.out]
  have A2 := Lib.hid (A1.out.other tr2 Htu.out)
  have X2 := Lib.hid (X1.out.tr tr2 Hu.out)
  have R2 := Lib.hid x2
  have T2 := Lib.hid tr2
  clear tr2 x2 X1 A1 R1
  go_wp2_with fail
  refine And.intro (fun _ => deed_cells X2.out) ?_
  refine anyN_oneL 12 (by kernel_rfl) ?_
  simp only [List.take_succ_cons, List.take_zero, List.drop_succ_cons, List.drop_zero]
  go_wp2_with fail
  refine And.intro (fun _ => deed_cells X2.out) ?_
  refine anyN_oneL 13 (by kernel_rfl) ?_
  simp only [List.take_succ_cons, List.take_zero, List.drop_succ_cons, List.drop_zero]
  go_wp2_with fail
  refine And.intro (fun _ => deed_cells X2.out) ?_
  refine ⟨by kernel_rfl, ?_⟩
  go_wp2_with fail
  go_ret
  exact ⟨rfl, own1, w1, own2, T1.out, T2.out, A2.out, R2.out⟩


set_option maxRecDepth 100000 in
set_option maxHeartbeats 2000000 in
theorem do_del (w : World) (own : Tags) (t u p q : Nat) (ids : List Id) (live : List Bool) (b1 b2 x y : Int) (ht : t ≠ 0) (hu0 : u ≠ 0) (htu : t ≠ u) (hf : Fresh own w) (ha : AxisAt w own t p ids live) (hx : RefAt w own u q ids live) :
    Calls Try.prog 35 #[.pointer (some ⟨p, 0, none⟩), .pointer (some ⟨q, 0, none⟩), .agg #[.int .i64 1, .int .i64 b1, .int .i64 b2, .int .i64 x, .int .i64 y]] w (DoP w own t u p q ids (turnL ids live (x, y) false)) := by
  have X0 := Lib.hid (Box.new hf 60 #[.int .i64 1, .int .i64 b1, .int .i64 b2, .int .i64 x, .int .i64 y])
  have A0 := Lib.hid (ha.alloc (.cells #[.int .i64 1, .int .i64 b1, .int .i64 b2, .int .i64 x, .int .i64 y] 60))
  have R0 := Lib.hid (hx.next ((Below.refl _ _).alloc (Nat.le_refl _) (.cells #[.int .i64 1, .int .i64 b1, .int .i64 b2, .int .i64 x, .int .i64 y] 60)))
  have T0 := Lib.hid ((Tr.refl own t w).alloc (.cells #[.int .i64 1, .int .i64 b1, .int .i64 b2, .int .i64 x, .int .i64 y] 60))
  have Ht := Lib.hid ht
  have Hu := Lib.hid hu0
  have Htu := Lib.hid htu
  clear hf ha hx ht hu0 htu
  go_enter Try.func35, Try.ntmps35
  go_wp2_with fail
  generalize w.alloc (.cells #[.int .i64 1, .int .i64 b1, .int .i64 b2, .int .i64 x, .int .i64 y] 60) = W at *
  refine region_picked [(⟨w.heap.size, 1, none⟩, .int .i64 b1), (⟨w.heap.size, 2, none⟩, .int .i64 b2), (⟨w.heap.size, 3, none⟩, .int .i64 x), (⟨w.heap.size, 4, none⟩, .int .i64 y)] [0, 1, 2, 4, 5, 6] [0,1,2,3,4,5,6,7,8,9] 4 (by kernel_rfl) (by kernel_rfl) (by kernel_rfl) (by kernel_rfl) (by kernel_rfl) (by kernel_rfl) (fun _ _ _ _ _ h => h) (deed_cells (X0.out.drewN 1)) ?_
  intro hne hu
  simp only [AllCells] at hu
  simp only [pick, List.take_succ_cons, List.take_zero, List.drop_succ_cons, List.drop_zero, List.cons_append, List.nil_append]
  repeat (go_big_quiet_step (fail))
  refine wpQuiet_nil ?_
  clear hne hu
  refine anyN_oneL 3 (by kernel_rfl) ?_
  simp only [List.take_succ_cons, List.take_zero, List.drop_succ_cons, List.drop_zero]
  go_wp2_with fail
  refine (delete_c W.drew own t p ids live x y (A0.out.keep Same.drew)).mono ?_
  rintro e w1 ⟨rfl, own1, tr1, a1⟩
  have T1 := Lib.hid (T0.out.drew.trans tr1)
  have X1 := Lib.hid ((X0.out.drewN 1).tr tr1 Ht.out)
  have A1 := Lib.hid a1
  have R1 := Lib.hid ((R0.out.keep Same.drew).other tr1 Htu.out.symm)
  clear tr1 a1 X0 A0 R0 T0
  generalize hr : turnR ids live (x, y) false = r at *
  have Hr := Lib.hid hr
  clear hr
  have hrr : (r == r) = true := by simp
  go_wp2_with fail
  refine And.intro (fun _ => deed_cells X1.out) ?_
  refine anyN_oneL 7 (by kernel_rfl) ?_
  simp only [List.take_succ_cons, List.take_zero, List.drop_succ_cons, List.drop_zero]
  go_wp2_with fail
  refine (rset_c w1 own1 u q ids live x y false R1.out).mono ?_
  rintro e w2 ⟨rfl, own2, tr2, x2⟩
  rw [Hr.out]
  have A2 := Lib.hid (A1.out.other tr2 Htu.out)
  have X2 := Lib.hid (X1.out.tr tr2 Hu.out)
  have R2 := Lib.hid x2
  have T2 := Lib.hid tr2
  clear tr2 x2 X1 A1 R1
  go_wp2_with fail
  refine And.intro (fun _ => deed_cells X2.out) ?_
  refine anyN_oneL 8 (by kernel_rfl) ?_
  simp only [List.take_succ_cons, List.take_zero, List.drop_succ_cons, List.drop_zero]
  go_wp2_with fail
  refine And.intro (fun _ => deed_cells X2.out) ?_
  refine anyN_oneL 9 (by kernel_rfl) ?_
  simp only [List.take_succ_cons, List.take_zero, List.drop_succ_cons, List.drop_zero]
  go_wp2_with fail
  refine And.intro (fun _ => deed_cells X2.out) ?_
  refine ⟨by kernel_rfl, ?_⟩
  go_wp2_with fail
  go_ret
  exact ⟨rfl, own1, w1, own2, T1.out, T2.out, A2.out, R2.out⟩


set_option maxRecDepth 100000 in
set_option maxHeartbeats 2000000 in
theorem do_rev (w : World) (own : Tags) (t u p q : Nat) (ids : List Id) (live : List Bool) (b1 b2 x y : Int) (ht : t ≠ 0) (hu0 : u ≠ 0) (htu : t ≠ u) (hf : Fresh own w) (ha : AxisAt w own t p ids live) (hx : RefAt w own u q ids live) :
    Calls Try.prog 35 #[.pointer (some ⟨p, 0, none⟩), .pointer (some ⟨q, 0, none⟩), .agg #[.int .i64 2, .int .i64 b1, .int .i64 b2, .int .i64 x, .int .i64 y]] w (DoP w own t u p q ids (turnL ids live (x, y) true)) := by
  have X0 := Lib.hid (Box.new hf 60 #[.int .i64 2, .int .i64 b1, .int .i64 b2, .int .i64 x, .int .i64 y])
  have A0 := Lib.hid (ha.alloc (.cells #[.int .i64 2, .int .i64 b1, .int .i64 b2, .int .i64 x, .int .i64 y] 60))
  have R0 := Lib.hid (hx.next ((Below.refl _ _).alloc (Nat.le_refl _) (.cells #[.int .i64 2, .int .i64 b1, .int .i64 b2, .int .i64 x, .int .i64 y] 60)))
  have T0 := Lib.hid ((Tr.refl own t w).alloc (.cells #[.int .i64 2, .int .i64 b1, .int .i64 b2, .int .i64 x, .int .i64 y] 60))
  have Ht := Lib.hid ht
  have Hu := Lib.hid hu0
  have Htu := Lib.hid htu
  clear hf ha hx ht hu0 htu
  go_enter Try.func35, Try.ntmps35
  go_wp2_with fail
  generalize w.alloc (.cells #[.int .i64 2, .int .i64 b1, .int .i64 b2, .int .i64 x, .int .i64 y] 60) = W at *
  refine region_picked [(⟨w.heap.size, 1, none⟩, .int .i64 b1), (⟨w.heap.size, 2, none⟩, .int .i64 b2), (⟨w.heap.size, 3, none⟩, .int .i64 x), (⟨w.heap.size, 4, none⟩, .int .i64 y)] [0, 1, 2, 4, 5, 6] [0,1,2,3,4,5,6,7,8,9] 4 (by kernel_rfl) (by kernel_rfl) (by kernel_rfl) (by kernel_rfl) (by kernel_rfl) (by kernel_rfl) (fun _ _ _ _ _ h => h) (deed_cells (X0.out.drewN 1)) ?_
  intro hne hu
  simp only [AllCells] at hu
  simp only [pick, List.take_succ_cons, List.take_zero, List.drop_succ_cons, List.drop_zero, List.cons_append, List.nil_append]
  repeat (go_big_quiet_step (fail))
  refine wpQuiet_nil ?_
  clear hne hu
  refine anyN_oneL 3 (by kernel_rfl) ?_
  simp only [List.take_succ_cons, List.take_zero, List.drop_succ_cons, List.drop_zero]
  go_wp2_with fail
  refine (revive_c W.drew own t p ids live x y (A0.out.keep Same.drew)).mono ?_
  rintro e w1 ⟨rfl, own1, tr1, a1⟩
  have T1 := Lib.hid (T0.out.drew.trans tr1)
  have X1 := Lib.hid ((X0.out.drewN 1).tr tr1 Ht.out)
  have A1 := Lib.hid a1
  have R1 := Lib.hid ((R0.out.keep Same.drew).other tr1 Htu.out.symm)
  clear tr1 a1 X0 A0 R0 T0
  generalize hr : turnR ids live (x, y) true = r at *
  have Hr := Lib.hid hr
  clear hr
  have hrr : (r == r) = true := by simp
  go_wp2_with fail
  refine And.intro (fun _ => deed_cells X1.out) ?_
  refine anyN_oneL 7 (by kernel_rfl) ?_
  simp only [List.take_succ_cons, List.take_zero, List.drop_succ_cons, List.drop_zero]
  go_wp2_with fail
  refine (rset_c w1 own1 u q ids live x y true R1.out).mono ?_
  rintro e w2 ⟨rfl, own2, tr2, x2⟩
  rw [Hr.out]
  have A2 := Lib.hid (A1.out.other tr2 Htu.out)
  have X2 := Lib.hid (X1.out.tr tr2 Hu.out)
  have R2 := Lib.hid x2
  have T2 := Lib.hid tr2
  clear tr2 x2 X1 A1 R1
  go_wp2_with fail
  refine And.intro (fun _ => deed_cells X2.out) ?_
  refine anyN_oneL 8 (by kernel_rfl) ?_
  simp only [List.take_succ_cons, List.take_zero, List.drop_succ_cons, List.drop_zero]
  go_wp2_with fail
  refine And.intro (fun _ => deed_cells X2.out) ?_
  refine anyN_oneL 9 (by kernel_rfl) ?_
  simp only [List.take_succ_cons, List.take_zero, List.drop_succ_cons, List.drop_zero]
  go_wp2_with fail
  refine And.intro (fun _ => deed_cells X2.out) ?_
  refine ⟨by kernel_rfl, ?_⟩
  go_wp2_with fail
  go_ret
  exact ⟨rfl, own1, w1, own2, T1.out, T2.out, A2.out, R2.out⟩


set_option maxRecDepth 100000 in
set_option maxHeartbeats 2000000 in
theorem do_none (w : World) (own : Tags) (t u p q : Nat) (ids : List Id) (live : List Bool) (k b1 b2 x y : Int) (h0 : k ≠ 0) (h1 : k ≠ 1) (h2 : k ≠ 2) (ha : AxisAt w own t p ids live) (hx : RefAt w own u q ids live) :
    Calls Try.prog 35 #[.pointer (some ⟨p, 0, none⟩), .pointer (some ⟨q, 0, none⟩), .agg #[.int .i64 k, .int .i64 b1, .int .i64 b2, .int .i64 x, .int .i64 y]] w (DoP w own t u p q ids live) := by
  have e0 : (k == 0) = false := beq_eq_false_iff_ne.2 h0
  have e1 : (k == 1) = false := beq_eq_false_iff_ne.2 h1
  have e2 : (k == 2) = false := beq_eq_false_iff_ne.2 h2
  have A0 := Lib.hid (ha.alloc (.cells #[.int .i64 k, .int .i64 b1, .int .i64 b2, .int .i64 x, .int .i64 y] 60))
  have R0 := Lib.hid (hx.next ((Below.refl _ _).alloc (Nat.le_refl _) (.cells #[.int .i64 k, .int .i64 b1, .int .i64 b2, .int .i64 x, .int .i64 y] 60)))
  have T0 := Lib.hid ((Tr.refl own t w).alloc (.cells #[.int .i64 k, .int .i64 b1, .int .i64 b2, .int .i64 x, .int .i64 y] 60))
  clear h0 h1 h2 ha hx
  go_enter Try.func35, Try.ntmps35
  go_wp2
  go_ret
  exact ⟨rfl, own, _, own, T0.out, Tr.refl _ _ _, A0.out, R0.out⟩

theorem do_c (w : World) (own : Tags) (t u p q : Nat) (ids : List Id) (live : List Bool) (d : Deed) (ht : t ≠ 0) (hu0 : u ≠ 0) (htu : t ≠ u) (hf : Fresh own w) (ha : AxisAt w own t p ids live) (hx : RefAt w own u q ids live) :
    Calls Try.prog 35 #[.pointer (some ⟨p, 0, none⟩), .pointer (some ⟨q, 0, none⟩), deedv d] w (DoP w own t u p q (doI ids d) (doL ids live d)) := by
  obtain ⟨k, ⟨b1, b2⟩, ⟨x, y⟩⟩ := d
  unfold doI doL deedv
  dsimp only
  by_cases h0 : k = 0
  · rw [if_pos h0, if_pos h0]; subst h0; exact do_ins w own t u p q ids live b1 b2 x y ht hu0 htu hf ha hx
  · rw [if_neg h0, if_neg h0]
    by_cases h1 : k = 1
    · rw [if_pos h1]; subst h1; exact do_del w own t u p q ids live b1 b2 x y ht hu0 htu hf ha hx
    · rw [if_neg h1]
      by_cases h2 : k = 2
      · rw [if_pos h2]; subst h2; exact do_rev w own t u p q ids live b1 b2 x y ht hu0 htu hf ha hx
      · rw [if_neg h2]; exact do_none w own t u p q ids live k b1 b2 x y h0 h1 h2 ha hx
end Go.Proofs.Ytgmlhpkhecbkoaa
