/-
  The closure of order.Permutation: its contract. Condition: the rows and keys can be read.
-/
import Derived.Test.YtifdpcjfjoekmaaA6
namespace Go.Proofs.Ytifdpcjfjoekmaa
open Go.RowKit

structure RowD where
  A : Option Addr
  n : Nat
  c : Nat
  l : List Val
instance : Inhabited RowD := ⟨⟨none, 0, 0, []⟩⟩
def rowCell (r : RowD) : List Value := [.slice r.A r.n r.c]
/-- A slice of rows that can be read. -/
structure RowsR (w : World) (A : Option Addr) (rs : List RowD) : Prop where
  top : ManyR rowCell 1 w A rs
  row : ∀ r ∈ rs, ManyR Val.cs 6 w r.A r.l
  len : ∀ r ∈ rs, r.l.length = r.n ∧ r.n ≤ 1000000
theorem RowsR.next {w w' : World} {A : Option Addr} {rs : List RowD} (h : RowsR w A rs) (hb : Below w.heap.size w w') : RowsR w' A rs := ⟨h.top.next hb, fun r hr => (h.row r hr).next hb, h.len⟩
/-- What the closure reads. -/
structure Clo (w : World) (bl bk : Nat) (A K : Option Addr) (n ca q ck : Nat) (rs : List RowD) (ks : List KeyD) : Prop where
  cl : Blk w bl 22 #[.slice A n ca]
  ck : Blk w bk 28 #[.slice K q ck]
  rows : RowsR w A rs
  keys : ManyR keyCells 2 w K ks
  hn : rs.length = n
  hq : ks.length = q
  q1 : q ≤ 1000000
  ok : ∀ r ∈ rs, RowOk r.l
theorem Clo.next {w w' : World} {bl bk : Nat} {A K : Option Addr} {n ca q ck : Nat} {rs : List RowD} {ks : List KeyD} (h : Clo w bl bk A K n ca q ck rs ks) (hb : Below w.heap.size w w') : Clo w' bl bk A K n ca q ck rs ks :=
  ⟨h.cl.kept (hb.block _ h.cl.lt), h.ck.kept (hb.block _ h.ck.lt), h.rows.next hb, h.keys.next hb, h.hn, h.hq, h.q1, h.ok⟩
def rowAt (rs : List RowD) (i : Nat) : List Val := (rs.getD i default).l
def cmpAt (rs : List RowD) (ks : List KeyD) (i j : Nat) : Int := cmpK (rowAt rs i) (rowAt rs j) ks

set_option maxRecDepth 100000 in
set_option maxHeartbeats 4000000 in
theorem clo_c (w : World) (bl bk : Nat) (A K : Option Addr) (n ca q ck : Nat) (rs : List RowD) (ks : List KeyD) (h : Clo w bl bk A K n ca q ck rs ks) (i j : Nat) (hi : i < n) (hj : j < n) :
    Calls Try.prog 17 #[.int .i64 i, .int .i64 j, .pointer (some ⟨bl, 0, none⟩), .pointer (some ⟨bk, 0, none⟩)] w fun e w' => e = .returned (.int .i64 (cmpAt rs ks i j)) ∧ Below w.heap.size w w' := by
  have hd := h.next ((Below.refl _ w).drew)
  have hi' : i < rs.length := by rw [h.hn]; exact hi
  have hj' : j < rs.length := by rw [h.hn]; exact hj
  obtain ⟨bA, oA, rfl, lA, hc⟩ := hd.rows.top (fun e => by rw [e] at hi'; simp at hi')
  have gi := hc i hi' 0 _ rfl
  have gj := hc j hj' 0 _ rfl
  simp only [Nat.add_zero, Nat.mul_one] at gi gj
  have ri := hd.rows.row _ (List.getElem_mem hi')
  have rj := hd.rows.row _ (List.getElem_mem hj')
  have li := hd.rows.len _ (List.getElem_mem hi')
  have lj := hd.rows.len _ (List.getElem_mem hj')
  have oi := hd.ok _ (List.getElem_mem hi')
  have oj := hd.ok _ (List.getElem_mem hj')
  have ei : rowAt rs i = rs[i].l := by simp [rowAt, List.getD, hi']
  have ej : rowAt rs j = rs[j].l := by simp [rowAt, List.getD, hj']
  have hE := Lib.hid (show cmpAt rs ks i j = cmpK rs[i].l rs[j].l ks by unfold cmpAt; rw [ei, ej])
  clear hc ei ej
  generalize rs[i] = r1 at *
  generalize rs[j] = r2 at *
  have HCC := Lib.hid (compare_c r1.A r2.A K r1.n r1.c r2.n r2.c q ck r1.l r2.l ks w.drew ri rj hd.keys li.1 lj.1 hd.hq oi oj li.2 lj.2 hd.q1)
  have HC : AllCells w.drew [(⟨bl, 0, none⟩, .slice (some ⟨bA, oA, none⟩) n ca), (⟨bk, 0, none⟩, .slice K q ck), (⟨bA, oA + i, none⟩, .slice r1.A r1.n r1.c), (⟨bA, oA + j, none⟩, .slice r2.A r2.n r2.c)] := ⟨hd.cl.cell 0, hd.ck.cell 0, gi, gj, trivial⟩
  have i0 : (0 : Int) ≤ (i : Int) := by omega
  have j0 : (0 : Int) ≤ (j : Int) := by omega
  have i1 : (i : Int) < (n : Int) := by omega
  have j1 : (j : Int) < (n : Int) := by omega
  clear h hd gi gj ri rj li lj oi oj lA hi hj hi' hj'
  go_enter Try.func17, Try.ntmps17
  go_wp2_with fail
  refine region_free _ [0, 1, 2, 3, 4, 5, 6, 7, 8] 2 (by kernel_rfl) (by kernel_rfl) (by kernel_rfl) (by kernel_rfl) (by kernel_rfl) (fun _ _ _ _ _ h => h) HC ?_
  intro hne hu
  simp only [AllCells] at hu
  simp only [pick, List.take_succ_cons, List.take_zero, List.drop_succ_cons, List.drop_zero, List.cons_append, List.nil_append]
  repeat (go_big_quiet_step (fail))
  refine wpQuiet_nil ?_
  clear hne hu
  refine anyN_oneL 9 (by kernel_rfl) ?_
  simp only [List.take_succ_cons, List.take_zero, List.drop_succ_cons, List.drop_zero]
  go_wp2_with fail
  refine HCC.out.mono ?_
  rintro e w1 ⟨rfl, b1⟩
  have HB := Lib.hid (((Below.refl _ w).drew).trans (b1.mono (Nat.le_refl _)))
  have HC1 := AllCells.below HC b1
  clear b1 HC HCC
  go_wp2_with fail
  refine And.intro (fun _ => HC1) ?_
  refine anyN_more [10] 0 (by kernel_rfl) (by kernel_rfl) (by kernel_rfl) (by kernel_rfl) (fun _ _ _ _ _ h => h) HC1 ?_
  intro hne hu
  simp only [AllCells] at hu
  simp only [pick, List.take_succ_cons, List.take_zero, List.drop_succ_cons, List.drop_zero, List.cons_append, List.nil_append]
  repeat (go_big_quiet_step (fail))
  refine wpQuiet_nil ?_
  clear hne hu
  refine ⟨by kernel_rfl, ?_⟩
  clear HC1
  go_wp2_with fail
  go_ret
  exact ⟨ret_i64 hE.out.symm, HB.out⟩
end Go.Proofs.Ytifdpcjfjoekmaa
