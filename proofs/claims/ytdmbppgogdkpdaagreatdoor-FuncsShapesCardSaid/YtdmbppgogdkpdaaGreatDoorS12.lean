/-
  package shape: build for Turn: its contract. Condition: the shape holds at most 4096 values; what the function tells of each place is said.
  shape.Turn$1, Turn: their contracts. Condition: the array may be.
  slices.Clone of values, farray.made, TOCOL, TOROW, TRANSPOSE: their contracts. Conditions: the array may be, holds at most 4096 values.
-/
import Derived.Test.YtdmbppgogdkpdaaGreatDoorS9
set_option linter.unusedSectionVars false
namespace Go.Proofs.YtdmbppgogdkpdaaGreatDoor
open Go.RowKit
def RetV (w : World) (x : Val) (e : Ending) (w' : World) : Prop := e = .returned (.agg x.cs.toArray) ∧ Below w.heap.size w w'
def BInv (w : World) (R C X : Nat) (m : List Val) (k : Nat) (W : World) : Prop := Below w.heap.size w W ∧ Blk W w.heap.size 28 #[.int .i64 0, .int .i64 0, .slice none 0 0] ∧ ∃ A c, Blk W X 28 #[.int .i64 R, .int .i64 C, .slice A k c] ∧ W.ownsRow w.heap.size 41 6 (.slice A k c) k ((m.take k).flatMap Val.cs)
set_option maxRecDepth 100000 in
set_option maxHeartbeats 4000000 in
theorem build_c (R C : Nat) (ba : Nat) (m : List Val) (w : World) (hR : 1 ≤ R) (hC : 1 ≤ C) (hm : m.length = R * C) (h4 : R * C ≤ 4096)
    (hE : ∀ W, Below w.heap.size w W → ∀ i j : Nat, i < R → j < C → ∀ h : i * C + j < m.length, Calls Tryz.prog 306 (#[.int .i64 i, .int .i64 j] ++ #[.pointer (some ⟨ba, 0, none⟩)]) W (RetV W m[i * C + j])) :
    Calls Tryz.prog 79 #[.int .i64 R, .int .i64 C, .func (.func 306) #[] #[.pointer (some ⟨ba, 0, none⟩)]] w (RetA w R C m) := by
  obtain ⟨i0, hi, hz0, hz1, hz2⟩ := info_parts Tryz.infoV
  have HE := Lib.hid hE
  have HM := Lib.hid hm
  obtain ⟨q, hq⟩ : ∃ q, R * C = q := ⟨_, rfl⟩
  have hq4 : q ≤ 4096 := by omega
  have HQ := Lib.hid hq
  have HRC := Lib.hid (show R ≤ 4096 ∧ C ≤ 4096 from ⟨Nat.le_trans (Nat.le_mul_of_pos_right R hC) h4, Nat.le_trans (Nat.le_mul_of_pos_left C hR) h4⟩)
  have wq : IntKind.i64.wrap ((R : Int) * (C : Int)) = (q : Int) := by
    rw [show (R : Int) * (C : Int) = (q : Int) by rw [← hq]; simp]
    exact IntWalk.i64_in _ (by omega)
  clear hE hm h4 hq
  have HB := Lib.hid ((Below.refl _ w).alloc (Nat.le_refl _) (.cells #[.int .i64 0, .int .i64 0, .slice none 0 0] 28))
  have BS := Lib.hid (Blk.new w 28 #[.int .i64 0, .int .i64 0, .slice none 0 0])
  go_enter Tryz.func79, Tryz.ntmps79
  go_wp2_with fail
  generalize w.alloc (.cells #[.int .i64 0, .int .i64 0, .slice none 0 0] 28) = V at *
  obtain ⟨w2, hrun, hr2, hg2⟩ := run_make_own (P := Tryz.prog) V w.heap.size 26 41 i0 _ 6 Tryz.underlying26 hi hz0 hz1 .i64 .i64 q (by rw [hz2]; omega) (by simp only [maxLen]; omega) HB.out.size
  rw [hrun]
  have HB2 := Lib.hid (below_grew HB.out hg2 (fun g hg => by cases hg))
  have BS2 := Lib.hid (BS.out.kept (hg2.block _ BS.out.lt (fun h => by cases h)))
  go_wp2_with fail
  have bl : Below w2.heap.size w2 (w2.alloc (.cells #[.int .i64 R, .int .i64 C, .slice (some ⟨V.heap.size, 0, none⟩) 0 q] 28)) := (Below.refl _ _).alloc (Nat.le_refl _) _
  have HI := Lib.hid (show BInv w R C w2.heap.size m 0 (w2.alloc (.cells #[.int .i64 R, .int .i64 C, .slice (some ⟨V.heap.size, 0, none⟩) 0 q] 28)) from
    ⟨HB2.out.trans (bl.mono HB2.out.size), BS2.out.alloc _, _, _, Blk.new w2 28 #[.int .i64 R, .int .i64 C, .slice (some ⟨V.heap.size, 0, none⟩) 0 q], ownsRow_kept hr2 (fun g _ hg => bl.block g hg)⟩)
  have HX := Lib.hid BS2.out.lt
  clear HB2 BS2 HB BS hr2 hg2 hrun bl
  generalize w2.alloc (.cells #[.int .i64 R, .int .i64 C, .slice (some ⟨V.heap.size, 0, none⟩) 0 q] 28) = W0 at *
  generalize w2.heap.size = X at *
  clear wq
  go_loopw [18] (fun i wr => ∃ a : Nat, a ≤ R ∧ i = .int .i64 a ∧ Hid (BInv w R C X m (a * C) wr)) (fun i _ => R - (intOf i).toNat)
  case atStart => exact ⟨0, Nat.zero_le _, rfl, by rw [Nat.zero_mul]; exact HI⟩
  case round =>
    obtain ⟨a, ha, rfl, hI⟩ := hrel
    by_cases hlt : a < R
    · have hax : (a : Int) < (R : Int) := by omega
      have wa : IntKind.i64.wrap ((a : Int) + 1) = (a : Int) + 1 := IntWalk.i64_in _ (by have := HRC.out; omega)
      go_wp2_with fail
      go_loopw [22] (fun i wr => ∃ j : Nat, j ≤ C ∧ i = .int .i64 j ∧ Hid (BInv w R C X m (a * C + j) wr)) (fun i _ => C - (intOf i).toNat)
      case atStart => exact ⟨0, Nat.zero_le _, rfl, by rw [Nat.add_zero]; exact hI⟩
      case round =>
        obtain ⟨j, hj, rfl, hI2⟩ := hrel
        by_cases hjt : j < C
        · have hjx : (j : Int) < (C : Int) := by omega
          have wj : IntKind.i64.wrap ((j : Int) + 1) = (j : Int) + 1 := IntWalk.i64_in _ (by have := HRC.out; omega)
          go_wp2_with fail
          obtain ⟨HB3, BS3, A, c, BX3, hr3⟩ := hI2.out
          obtain ⟨k, hk⟩ : ∃ k, a * C + j = k := ⟨_, rfl⟩
          have hkl : a * C + j < m.length := by
            rw [HM.out]
            have : (a + 1) * C ≤ R * C := Nat.mul_le_mul_right C hlt
            rw [Nat.succ_mul] at this
            omega
          have HE1 := Lib.hid (fun W hW => HE.out W hW a j hlt hjt hkl)
          have hk4 : k < 4096 := by have := HM.out; have := HQ.out; omega
          simp only [hk] at HE1 hkl hr3 BX3 hI2
          have HT := Lib.hid (show m.take (k + 1) = m.take k ++ [m[k]] from by rw [List.take_succ_eq_append_getElem hkl])
          generalize m[k] = z at *
          obtain ⟨zk, zm, ze, zt, zb, zf⟩ := z
          have HE2 := Lib.hid (fun W hW => show Calls Tryz.prog 306 (#[.int .i64 a, .int .i64 j] ++ #[.pointer (some ⟨ba, 0, none⟩)]) W (fun x w' => x = .returned (.agg #[.int .i64 zk, .int .i64 zm, .int .i64 ze, .string zt, .bool zb, .int .i64 zf]) ∧ Below W.heap.size W w') from HE1.out W hW)
          have hB3 := Lib.hid HB3
          have bS3 := Lib.hid BS3
          have bX3 := Lib.hid BX3
          have hR3 := Lib.hid hr3
          clear HE1 hI2 HB3 BS3 BX3 hr3 hkl
          have HC : AllCells wr.drew [(⟨X, 2, none⟩, .slice A k c)] := ⟨by
            have := (bX3.out.kept (w' := wr.drew) rfl).cell 2
            simpa using this, trivial⟩
          refine region_picked _ [0, 1, 2, 3, 4] [0, 1, 2, 3, 4, 5, 6, 7, 8] 5 (by kernel_rfl) (by kernel_rfl) (by kernel_rfl) (by kernel_rfl) (by kernel_rfl) (by kernel_rfl) (fun _ _ _ _ _ h => h) HC ?_
          intro hne hu
          simp only [AllCells] at hu
          simp only [pick, List.take_succ_cons, List.take_zero, List.drop_succ_cons, List.drop_zero, List.cons_append, List.nil_append]
          repeat (go_big_quiet_step (fail))
          refine wpQuiet_nil ?_
          clear hne hu
          refine anyN_oneL 5 (by kernel_rfl) ?_
          simp only [List.take_succ_cons, List.take_zero, List.drop_succ_cons, List.drop_zero]
          go_wp2_with fail
          refine (HE2.out _ hB3.out.drew).mono ?_
          rintro y w1 ⟨rfl, B1⟩
          have hB4 := Lib.hid (hB3.out.drew.trans (B1.mono hB3.out.size))
          have hS4 := Lib.hid (bS3.out.kept (show w1.heap[w.heap.size]? = wr.heap[w.heap.size]? from B1.block _ bS3.out.lt))
          have hX4 := Lib.hid (bX3.out.kept (show w1.heap[X]? = wr.heap[X]? from B1.block _ bX3.out.lt))
          have hR4 := Lib.hid (ownsRow_kept hR3.out (w' := w1) (fun g _ hg => B1.block g hg))
          clear B1 hB3 bS3 bX3 hR3 HC
          have HC4 : AllCells w1 [(⟨X, 2, none⟩, .slice A k c)] := ⟨by simpa using hX4.out.cell 2, trivial⟩
          go_wp2_with fail
          refine And.intro (fun _ => HC4) ?_
          refine anyN_oneL 6 (by kernel_rfl) ?_
          simp only [List.take_succ_cons, List.take_zero, List.drop_succ_cons, List.drop_zero]
          have HSz := Lib.hid hB4.out.size
          go_wp2_with fail
          have bl : Below w1.heap.size w1 (w1.alloc (.cells #[.int .i64 zk, .int .i64 zm, .int .i64 ze, .string zt, .bool zb, .int .i64 zf] 41)) := (Below.refl _ w1).alloc (Nat.le_refl _) _
          have hB5 := Lib.hid (hB4.out.trans (bl.mono hB4.out.size))
          have hS5 := Lib.hid (hS4.out.kept (bl.block _ hS4.out.lt))
          have hX5 := Lib.hid (hX4.out.kept (bl.block _ hX4.out.lt))
          have hR5 := Lib.hid (ownsRow_kept hR4.out (w' := w1.alloc (.cells #[.int .i64 zk, .int .i64 zm, .int .i64 ze, .string zt, .bool zb, .int .i64 zf] 41)) (fun g _ hg => bl.block g hg))
          have HSrc : Hid (∀ ad, some (⟨w1.heap.size, 0, none⟩ : Addr) = some ad → ∀ j u, [Value.int .i64 zk, .int .i64 zm, .int .i64 ze, .string zt, .bool zb, .int .i64 zf][j]? = some u → (w1.alloc (.cells #[.int .i64 zk, .int .i64 zm, .int .i64 ze, .string zt, .bool zb, .int .i64 zf] 41)).cell? (ad.add j) = some u) := fun ad hE j u hj => by
            cases hE
            have := (Blk.new w1 41 #[.int .i64 zk, .int .i64 zm, .int .i64 ze, .string zt, .bool zb, .int .i64 zf]).cell j
            rw [add_at, Nat.zero_add]
            refine this.trans ?_
            simpa using hj
          clear bl HC4 hB4 hS4 hX4 hR4
          have HC5 : AllCells (w1.alloc (.cells #[.int .i64 zk, .int .i64 zm, .int .i64 ze, .string zt, .bool zb, .int .i64 zf] 41)) [(⟨X, 2, none⟩, .slice A k c)] := ⟨by simpa using hX5.out.cell 2, trivial⟩
          refine And.intro (fun _ => HC5) ?_
          refine anyN_oneL 7 (by kernel_rfl) ?_
          simp only [List.take_succ_cons, List.take_zero, List.drop_succ_cons, List.drop_zero]
          have HBase := Lib.hid (ownsRow_base hR5.out)
          have HNe := Lib.hid (ownsRow_ne hR5.out hX5.out (by decide))
          have HNs := Lib.hid (ownsRow_ne hR5.out hS5.out (by decide))
          have HS5 := Lib.hid hB5.out.size
          go_wp2_with (at_builtin; refine wpList_append_src _ rfl _ _ _ rfl w.heap.size 41 i0 _ 6 56 Tryz.underlying26 hi hz0 hz1 hz2 rfl (by omega) _ k ((m.take k).flatMap Val.cs) rfl hR5.out (some ⟨w1.heap.size, 0, none⟩) 1 1 [.int .i64 zk, .int .i64 zm, .int .i64 ze, .string zt, .bool zb, .int .i64 zf] rfl (fun e => by cases e) rfl HSrc.out (by simp [Value.oneCell']) (by simp only [maxLen]; omega) (by omega) HS5.out ?_; intro v2 w3 hr6 hg6 hat6)
          have hR6 := Lib.hid (show w3.ownsRow w.heap.size 41 6 v2 (k + 1) ((m.take (k + 1)).flatMap Val.cs) by rw [HT.out, List.flatMap_append]; exact hr6)
          have hB6 := Lib.hid (below_grew hB5.out hg6 (fun g hg => HBase.out g hg))
          have hX6 := Lib.hid (hX5.out.kept (hg6.block _ hX5.out.lt (fun e => HNe.out _ e.symm rfl)))
          have hS6 := Lib.hid (hS5.out.kept (hg6.block _ hS5.out.lt (fun e => HNs.out _ e.symm rfl)))
          clear hr6 hg6 hat6 HC5 hB5 hX5 hR5 hS5
          have HC6 : AllCells w3 [(⟨X, 2, none⟩, .slice A k c)] := ⟨by simpa using hX6.out.cell 2, trivial⟩
          obtain ⟨A2, c2, rfl, hAc⟩ := ownsRow_shape hR6.out
          clear hAc
          refine And.intro (fun _ => HC6) ?_
          refine anyN_oneL 8 (by kernel_rfl) ?_
          simp only [List.take_succ_cons, List.take_zero, List.drop_succ_cons, List.drop_zero]
          go_wp2_with fail
          refine And.intro (fun _ => HC6) ?_
          refine anyN_oneL 9 (by kernel_rfl) ?_
          simp only [List.take_succ_cons, List.take_zero, List.drop_succ_cons, List.drop_zero]
          have x0 := hX6.out.cell 0
          have x1 := hX6.out.cell 1
          have x2 := hX6.out.cell 2
          simp only [List.getElem?_toArray, List.getElem?_cons_zero, List.getElem?_cons_succ] at x0 x1 x2
          have f0 := hX6.out.frozen 0
          have f1 := hX6.out.frozen 1
          have f2 := hX6.out.frozen 2
          have lX := hX6.out.lt
          go_wp2_with fail
          refine And.intro (fun h => by cases h) ?_
          have hX7 := Lib.hid (show Blk (w3.setCell ⟨X, 2, none⟩ (.slice A2 (k + 1) c2)) X 28 #[.int .i64 R, .int .i64 C, .slice A2 (k + 1) c2] by simpa using hX6.out.store 2 (.slice A2 (k + 1) c2))
          have hS7 := Lib.hid (hS6.out.far (p := ⟨X, 2, none⟩) (show w.heap.size ≠ X from fun e => by have := HX.out; omega) (.slice A2 (k + 1) c2))
          have hB7 := Lib.hid (hB6.out.setCell (p := ⟨X, 2, none⟩) (Nat.le_of_lt HX.out) (.slice A2 (k + 1) c2))
          have hR7 := Lib.hid (ownsRow_kept hR6.out (w' := w3.setCell ⟨X, 2, none⟩ (.slice A2 (k + 1) c2)) (fun g hg _ => Below.heap_setCell _ _ _ _ (ownsRow_ne hR6.out hX6.out (by decide) g hg)))
          clear x0 x1 x2 f0 f1 f2 lX HC6
          refine ⟨by kernel_rfl, ?_⟩
          go_wp2_with fail
          exact ⟨⟨j + 1, hjt, by go_num, Lib.hid (show BInv w R C X m (a * C + (j + 1)) _ by rw [← Nat.add_assoc, hk]; exact ⟨hB7.out, hS7.out, _, _, hX7.out, hR7.out⟩)⟩, by simp [intOf]; omega⟩
        · obtain rfl : j = C := by omega
          have hjj : decide ((j : Int) < (j : Int)) = false := decide_eq_false (by omega)
          go_wp2_with fail
          exact ⟨⟨a + 1, hlt, by go_num, by rw [Nat.succ_mul]; exact hI2⟩, by simp [intOf]; omega⟩
    · obtain rfl : a = R := by omega
      have hjj : decide ((a : Int) < (a : Int)) = false := decide_eq_false (by omega)
      obtain ⟨HB3, BS3, A, c, BX3, hr3⟩ := hI.out
      have hB3 := Lib.hid HB3
      have hS3 := Lib.hid BS3
      have hX3 := Lib.hid BX3
      have HF := Lib.hid (manyR_of_row (f := Val.cs) (k := 6) (fun _ => rfl) (by omega) hr3)
      have HBase := Lib.hid (ownsRow_base hr3)
      have HNs := Lib.hid (ownsRow_ne hr3 BS3 (by decide))
      have HFr := Lib.hid (show ∀ z, A = some z → w.heap.size ≤ z.block ∧ z.block ≠ w.heap.size from fun z hz => by
        subst hz
        rcases hr3.2 with ⟨hv, _⟩ | ⟨g, cap, cur, hv, _⟩
        · cases hv
        · cases hv
          exact ⟨HBase.out g rfl, HNs.out g rfl⟩)
      clear HB3 BS3 BX3 hr3
      have x0 := hX3.out.cell 0
      have x1 := hX3.out.cell 1
      have x2 := hX3.out.cell 2
      simp only [List.getElem?_toArray, List.getElem?_cons_zero, List.getElem?_cons_succ] at x0 x1 x2
      have e0 := hS3.out.cell 0
      have e1 := hS3.out.cell 1
      have e2 := hS3.out.cell 2
      simp only [List.getElem?_toArray, List.getElem?_cons_zero, List.getElem?_cons_succ] at e0 e1 e2
      have f0 := hS3.out.frozen 0
      have f1 := hS3.out.frozen 1
      have f2 := hS3.out.frozen 2
      have lX := hS3.out.lt
      go_wp2_with fail
      change bodyPost _ _ _ _ _ (put3 wr w.heap.size (.int .i64 a) (.int .i64 C) (.slice A (a * C) c))
      have HE := Lib.hid (show m.take (a * C) = m from List.take_of_length_le (by rw [HM.out]; exact Nat.le_refl _))
      have HA := Lib.hid (manyR_put3 (X := w.heap.size) (show ManyR Val.cs 6 wr A m by have := HF.out.2; rwa [HE.out] at this) (fun z hz => (HFr.out z hz).2) (.int .i64 a) (.int .i64 C) (.slice A (a * C) c))
      have hX4 := Lib.hid (blk_put3 hS3.out (.int .i64 a) (.int .i64 C) (.slice A (a * C) c))
      have hB4 := below_put3 hB3.out (Nat.le_refl _) (.int .i64 a) (.int .i64 C) (.slice A (a * C) c)
      clear x0 x1 x2 e0 e1 e2 f0 f1 f2 lX
      generalize put3 wr w.heap.size (.int .i64 a) (.int .i64 C) (.slice A (a * C) c) = W2 at *
      have d0 := hX4.out.cell 0
      have d1 := hX4.out.cell 1
      have d2 := hX4.out.cell 2
      simp only [List.getElem?_toArray, List.getElem?_cons_zero, List.getElem?_cons_succ] at d0 d1 d2
      exact bodyPost_ret (v := .agg #[.int .i64 a, .int .i64 C, .slice A (a * C) c]) (by simp [results, Tryz.f79, go_sem, d0, d1, d2]) rfl ⟨_, _, _, rfl, HM.out, HA.out, fun z hz => (HFr.out z hz).1, hB4⟩
end Go.Proofs.YtdmbppgogdkpdaaGreatDoor
namespace Go.Proofs.YtdmbppgogdkpdaaGreatDoor
open Go.RowKit
def turnL (R C : Nat) (l : List Val) : List Val := (List.range (C * R)).map fun k => l.getD (k % R * C + k / R) zeroV
theorem turnL_len (R C : Nat) (l : List Val) : (turnL R C l).length = C * R := by unfold turnL; simp
theorem turnL_get (R C : Nat) (l : List Val) (i j : Nat) (hi : i < C) (hj : j < R) (h : i * R + j < (turnL R C l).length) : (turnL R C l)[i * R + j] = l.getD (j * C + i) zeroV := by
  have hR : 0 < R := by omega
  have h2 : i * R + j < C * R := by rw [turnL_len] at h; exact h
  apply Option.some.inj
  rw [← List.getElem?_eq_getElem h]
  unfold turnL
  rw [List.getElem?_map, List.getElem?_range h2]
  show some (l.getD ((i * R + j) % R * C + (i * R + j) / R) zeroV) = some _
  rw [show i * R + j = j + R * i by rw [Nat.mul_comm, Nat.add_comm], Nat.add_mul_mod_self_left, Nat.mod_eq_of_lt hj, Nat.add_mul_div_left _ _ hR, Nat.div_eq_of_lt hj, Nat.zero_add]
set_option maxRecDepth 100000 in
set_option maxHeartbeats 1000000 in
theorem turn1_c (ba i j : Nat) (R C : Nat) (A : Option Addr) (n ca : Nat) (l : List Val) (w : World) (hG : Blk w ba 28 #[.int .i64 R, .int .i64 C, .slice A n ca]) (hA : ManyR Val.cs 6 w A l) (hn : l.length = n) (hm : n ≤ 4096) (hi : i < C) (hj : j < R) (hRC : R * C = n) :
    Calls Tryz.prog 306 (#[.int .i64 i, .int .i64 j] ++ #[.pointer (some ⟨ba, 0, none⟩)]) w (RetV w (l.getD (j * C + i) zeroV)) := by
  have hlt : j * C + i < n := by
    have : (j + 1) * C ≤ R * C := Nat.mul_le_mul_right C hj
    rw [Nat.succ_mul] at this
    omega
  have hjl : j * C + i < l.length := by omega
  have he : l.getD (j * C + i) zeroV = l[j * C + i] := by rw [List.getD_eq_getElem?_getD, List.getElem?_eq_getElem hjl]; rfl
  rw [he]
  clear he
  have HB := Lib.hid ((Below.refl _ w).alloc (Nat.le_refl _) (.cells #[.int .i64 0, .int .i64 0, .int .i64 0, .string ⟨#[]⟩, .bool false, .int .i64 0] 41))
  have BX := Lib.hid (Blk.new w 41 #[.int .i64 0, .int .i64 0, .int .i64 0, .string ⟨#[]⟩, .bool false, .int .i64 0])
  have BG := Lib.hid (hG.alloc (.cells #[.int .i64 0, .int .i64 0, .int .i64 0, .string ⟨#[]⟩, .bool false, .int .i64 0] 41))
  obtain ⟨bA, oA, rfl, lA, hcA⟩ := (hA.next HB.out) (fun e => by rw [e] at hjl; simp at hjl)
  have gv := hcA _ hjl
  have wm : IntKind.i64.wrap ((j : Int) * (C : Int)) = ((j * C : Nat) : Int) := by
    rw [show (j : Int) * (C : Int) = ((j * C : Nat) : Int) by simp]
    exact IntWalk.i64_in _ (by omega)
  obtain ⟨q, hq⟩ : ∃ q, j * C = q := ⟨_, rfl⟩
  rw [hq] at wm
  simp only [hq] at gv hjl hlt ⊢
  have wa : IntKind.i64.wrap ((q : Int) + (i : Int)) = ((q + i : Nat) : Int) := by
    rw [show (q : Int) + (i : Int) = ((q + i : Nat) : Int) by simp]
    exact IntWalk.i64_in _ (by omega)
  obtain ⟨k, hk⟩ : ∃ k, q + i = k := ⟨_, rfl⟩
  simp only [hk] at gv hjl hlt wa ⊢
  clear hcA hG hA
  generalize l[k] = z at *
  obtain ⟨zk, zm, ze, zt, zb, zf⟩ := z
  have c0 := gv 0 _ rfl
  have c1 := gv 1 _ rfl
  have c2 := gv 2 _ rfl
  have c3 := gv 3 _ rfl
  have c4 := gv 4 _ rfl
  have c5 := gv 5 _ rfl
  rw [Nat.add_zero] at c0
  have hk0 : (0 : Int) ≤ (k : Int) := by omega
  have hkn : (k : Int) < (n : Int) := by omega
  clear gv hq hk hjl hlt hRC hn hi hj
  show Calls Tryz.prog 306 #[.int .i64 i, .int .i64 j, .pointer (some ⟨ba, 0, none⟩)] w _
  have g0 := BG.out.cell 0
  have g1 := BG.out.cell 1
  have g2 := BG.out.cell 2
  simp only [List.getElem?_toArray, List.getElem?_cons_zero, List.getElem?_cons_succ] at g0 g1 g2
  clear BX BG
  go_enter Tryz.func306, Tryz.ntmps306
  go_wp2_with fail
  exact bodyPost_ret (v := .agg #[.int .i64 zk, .int .i64 zm, .int .i64 ze, .string zt, .bool zb, .int .i64 zf]) (by simp [results, Tryz.f306, go_sem]) rfl ⟨rfl, (Below.refl _ w).alloc (Nat.le_refl _) _⟩
set_option maxRecDepth 100000 in
set_option maxHeartbeats 1000000 in
theorem turn_c (R C : Nat) (A : Option Addr) (n ca : Nat) (l : List Val) (w : World) (hA : ManyR Val.cs 6 w A l) (hn : l.length = n) (hm : n ≤ 4096) (hf : ∀ v ∈ l, FitsV v) (hr : RightA R C l) :
    Calls Tryz.prog 218 #[.agg #[.int .i64 R, .int .i64 C, .slice A n ca]] w (RetA w C R (turnL R C l)) := by
  have HB := Lib.hid (((Below.refl _ w).alloc (Nat.le_refl _) (.cells #[.int .i64 R, .int .i64 C, .slice A n ca] 28)).alloc (by simp) (.cells #[.int .i64 0, .int .i64 0, .slice none 0 0] 28))
  have BA := Lib.hid ((Blk.new w 28 #[.int .i64 R, .int .i64 C, .slice A n ca]).alloc (.cells #[.int .i64 0, .int .i64 0, .slice none 0 0] 28))
  have BX := Lib.hid (show Blk ((w.alloc (.cells #[.int .i64 R, .int .i64 C, .slice A n ca] 28)).alloc (.cells #[.int .i64 0, .int .i64 0, .slice none 0 0] 28)) (w.heap.size + 1) 28 #[.int .i64 0, .int .i64 0, .slice none 0 0] by
    have := Blk.new (w.alloc (.cells #[.int .i64 R, .int .i64 C, .slice A n ca] 28)) 28 #[.int .i64 0, .int .i64 0, .slice none 0 0]
    rwa [show (w.alloc (.cells #[.int .i64 R, .int .i64 C, .slice A n ca] 28)).heap.size = w.heap.size + 1 by simp] at this)
  have HA := Lib.hid (hA.next HB.out)
  have HRT := Lib.hid (fun W (h : ManyR Val.cs 6 W A l) => shright_c R C A n ca l W h hn hm hf)
  have HRI := Lib.hid hr
  have h1 : 1 ≤ R := by have := hr.r1; omega
  have h2 : 1 ≤ C := by have := hr.c1; omega
  have h3 : R * C = n := by
    have h3 := hr.len
    rw [hn] at h3
    exact_mod_cast h3
  have HTU := Lib.hid (fun W i j (hG : Blk W w.heap.size 28 #[.int .i64 R, .int .i64 C, .slice A n ca]) (hM : ManyR Val.cs 6 W A l) hi hj => turn1_c w.heap.size i j R C A n ca l W hG hM hn hm hi hj h3)
  have H3 := Lib.hid h3
  clear hA hn hf hr
  go_enter Tryz.func218, Tryz.ntmps218
  go_wp2_with fail
  generalize ((w.alloc (.cells #[.int .i64 R, .int .i64 C, .slice A n ca] 28)).alloc (.cells #[.int .i64 0, .int .i64 0, .slice none 0 0] 28)) = V at *
  have a0 := BA.out.cell 0
  have a1 := BA.out.cell 1
  have a2 := BA.out.cell 2
  simp only [List.getElem?_toArray, List.getElem?_cons_zero, List.getElem?_cons_succ] at a0 a1 a2
  go_wp2_with fail
  refine (HRT.out V HA.out).mono ?_
  rintro x w1 ⟨b1, rfl, r1, B1⟩
  obtain rfl : b1 = true := r1.2 HRI.out
  have BX1 := Lib.hid (BX.out.kept (B1.block _ BX.out.lt))
  have BA1 := Lib.hid (BA.out.kept (B1.block _ BA.out.lt))
  have HB1 := Lib.hid (HB.out.trans (B1.mono HB.out.size))
  have HA1 := Lib.hid (HA.out.next B1)
  clear B1 r1 BX BA HB HA a0 a1 a2
  have HBD := Lib.hid (build_c C R w.heap.size (turnL R C l) w1 h2 h1 (turnL_len R C l) (by rw [Nat.mul_comm]; omega) (fun W hW i j hi hj h => by
    rw [turnL_get R C l i j hi hj h]
    exact HTU.out W i j (BA1.out.kept (hW.block _ BA1.out.lt)) (HA1.out.next hW) hi hj))
  have a0 := BA1.out.cell 0
  have a1 := BA1.out.cell 1
  have a2 := BA1.out.cell 2
  simp only [List.getElem?_toArray, List.getElem?_cons_zero, List.getElem?_cons_succ] at a0 a1 a2
  clear h3
  go_wp2_with fail
  refine HBD.out.mono ?_
  rintro y w9 ⟨A9, n9, ca9, rfl, hn9, hA9, hF9, B9⟩
  have BXt := Lib.hid (BX1.out.kept (B9.block _ BX1.out.lt))
  have HBt := Lib.hid (HB1.out.trans (B9.mono HB1.out.size))
  have HN9 := Lib.hid hn9
  have HF9 := Lib.hid (show ∀ a, A9 = some a → w.heap.size + 1 < a.block from fun a e => Nat.lt_of_lt_of_le BX1.out.lt (hF9 a e))
  have HA9 := Lib.hid (manyR_put3 hA9 (X := w.heap.size + 1) (fun a e => by have := HF9.out a e; omega) (.int .i64 C) (.int .i64 R) (.slice A9 n9 ca9))
  clear B9 hn9 hA9 hF9 BX1 HB1 a0 a1 a2 HBD
  have e0 := BXt.out.cell 0
  have e1 := BXt.out.cell 1
  have e2 := BXt.out.cell 2
  simp only [List.getElem?_toArray, List.getElem?_cons_zero, List.getElem?_cons_succ] at e0 e1 e2
  have f0 := BXt.out.frozen 0
  have f1 := BXt.out.frozen 1
  have f2 := BXt.out.frozen 2
  have lX := BXt.out.lt
  go_wp2_with fail
  change bodyPost _ _ _ _ _ (put3 w9 (w.heap.size + 1) (.int .i64 C) (.int .i64 R) (.slice A9 n9 ca9))
  have bXt := Lib.hid (blk_put3 BXt.out (.int .i64 C) (.int .i64 R) (.slice A9 n9 ca9))
  have HBu := below_put3 HBt.out (Nat.le_succ _) (.int .i64 C) (.int .i64 R) (.slice A9 n9 ca9)
  generalize put3 w9 (w.heap.size + 1) (.int .i64 C) (.int .i64 R) (.slice A9 n9 ca9) = W2 at *
  have d0 := bXt.out.cell 0
  have d1 := bXt.out.cell 1
  have d2 := bXt.out.cell 2
  simp only [List.getElem?_toArray, List.getElem?_cons_zero, List.getElem?_cons_succ] at d0 d1 d2
  exact bodyPost_ret (v := .agg #[.int .i64 C, .int .i64 R, .slice A9 n9 ca9]) (by simp [results, Tryz.f218, go_sem, d0, d1, d2]) rfl ⟨_, _, _, rfl, HN9.out, HA9.out, fun a e => by have := HF9.out a e; omega, HBu⟩
end Go.Proofs.YtdmbppgogdkpdaaGreatDoor
namespace Go.Proofs.YtdmbppgogdkpdaaGreatDoor
open Go.RowKit
@[go_sem ↓] theorem Tryz.eqlnilV (w : World) (A : Option Addr) (n c : Nat) : (binOp .eql 26 (.slice A n c) (.slice none 0 0)).run Tryz.prog w = .ok (.bool A.isNone) w := Lib.run_eql_slice_nil w _ _ A n c 0 0 Tryz.underlying26
theorem cell_put3 {W : World} {X g o : Nat} {v : Value} (h : W.cell? ⟨g, o, none⟩ = some v) (hne : X ≠ g) (a b c : Value) : (put3 W X a b c).cell? ⟨g, o, none⟩ = some v := by
  have ne : ∀ q, (⟨X, q, none⟩ : Addr) ≠ ⟨g, o, none⟩ := fun q e => hne (by cases e; rfl)
  unfold put3
  rw [World.cell?_setCell_other _ _ _ _ (ne 2), World.cell?_setCell_other _ _ _ _ (ne 1), World.cell?_setCell_other _ _ _ _ (ne 0)]
  exact h
def FreshP (w : World) (l : List Val) (e : Ending) (w' : World) : Prop := ∃ A c, e = .returned (.slice A l.length c) ∧ ManyR Val.cs 6 w' A l ∧ (∀ a, A = some a → w.heap.size ≤ a.block) ∧ Below w.heap.size w w'
theorem flat_cells {w : World} {bA oA : Nat} {l : List Val} (hcA : ∀ i (h : i < l.length), ∀ j v, (Val.cs l[i])[j]? = some v → w.cell? ⟨bA, oA + i * 6 + j, none⟩ = some v) : ∀ j u, (l.flatMap Val.cs)[j]? = some u → w.cell? ⟨bA, oA + j, none⟩ = some u := fun j u hj => by
  have hjl : j < (l.flatMap Val.cs).length := (List.getElem?_eq_some_iff.1 hj).1
  rw [flat_len (k := 6) (fun _ => rfl)] at hjl
  have h6 : j / 6 < l.length := by omega
  have e6 : j / 6 * 6 + j % 6 = j := by omega
  have hz : (Val.cs l[j / 6])[j % 6]? = some u := by
    cases hq : (Val.cs l[j / 6])[j % 6]? with
    | none => exact absurd (List.getElem?_eq_none_iff.1 hq) (by simp [Val.cs]; omega)
    | some q =>
      have := flat_get (f := Val.cs) (k := 6) (fun _ => rfl) l (j / 6) h6 (j % 6) q hq
      rw [e6, hj] at this
      exact this.symm
  have := hcA (j / 6) h6 (j % 6) u hz
  rwa [show oA + j / 6 * 6 + j % 6 = oA + j by omega] at this
set_option maxRecDepth 100000 in
set_option maxHeartbeats 1000000 in
theorem clone_c (A : Option Addr) (n ca : Nat) (l : List Val) (w : World) (hA : ManyR Val.cs 6 w A l) (hn : l.length = n) (hm : n ≤ 4096) (hl : l ≠ []) :
    Calls Tryz.prog 215 #[.slice A n ca] w (FreshP w l) := by
  obtain ⟨i0, hi, hz0, hz1, hz2⟩ := info_parts Tryz.infoV
  obtain ⟨bA, oA, rfl, lA, hcA⟩ := hA hl
  have HN := Lib.hid hn
  have HB := Lib.hid ((Below.refl _ w).alloc (Nat.le_refl _) (.cells #[] 41))
  have HSrc : Hid (∀ ad, some (⟨bA, oA, none⟩ : Addr) = some ad → ∀ j u, (l.flatMap Val.cs)[j]? = some u → (w.alloc (.cells #[] 41)).cell? (ad.add j) = some u) := fun ad hE j u hj => by
    cases hE
    rw [add_at]
    have hlt : (⟨bA, oA + j, none⟩ : Addr).block < w.heap.size := lA
    rw [World.cell?_alloc_lt _ _ _ hlt]
    exact flat_cells hcA j u hj
  have HO := Lib.hid (show (w.alloc (.cells #[] 41)).ownsRow w.heap.size 41 6 (.slice (some ⟨w.heap.size, 0, none⟩) 0 0) 0 [] from World.ownsRow_made w #[] 0 (Nat.le_refl _) (Nat.zero_le _) (by simp))
  clear hA hn hcA lA
  go_enter Tryz.func215, Tryz.ntmps215
  go_wp2_with (at_builtin; refine wpList_append_src _ rfl _ _ _ rfl w.heap.size 41 i0 _ 6 56 Tryz.underlying26 hi hz0 hz1 hz2 rfl (by omega) _ 0 [] rfl HO.out (some ⟨bA, oA, none⟩) n ca (l.flatMap Val.cs) rfl (fun e => by cases e) (by rw [flat_len (k := 6) (fun _ => rfl), HN.out]) HSrc.out (val_one l) (by simp only [maxLen]; omega) (by omega) (by simp) ?_; intro v2 w3 hr6 hg6 hat6)
  have HR := Lib.hid (show w3.ownsRow w.heap.size 41 6 v2 n (l.flatMap Val.cs) by simpa using hr6)
  have HB3 := Lib.hid (below_grew HB.out hg6 (fun g hg => by cases hg; exact Nat.le_refl _))
  clear hr6 hg6 hat6
  obtain ⟨A2, c2, rfl, hAc⟩ := ownsRow_shape HR.out
  clear hAc
  have HF := manyR_of_row (f := Val.cs) (k := 6) (fun _ => rfl) (by omega) HR.out
  have HBase := ownsRow_base HR.out
  go_ret
  exact ⟨A2, c2, by rw [HN.out]; rfl, HF.2, fun a e => by
    rcases HR.out.2 with ⟨hv, _⟩ | ⟨g, cap, cur, hv, _⟩
    · cases hv; cases e
    · cases hv; cases e; exact HBase g rfl, HB3.out⟩
set_option maxRecDepth 100000 in
set_option maxHeartbeats 1000000 in
theorem made_c (r c : Int) (A : Option Addr) (n ca : Nat) (w : World) : Calls Tryz.prog 214 #[.int .i64 r, .int .i64 c, .slice A n ca] w fun x w' => x = .returned (.agg #[.int .i64 r, .int .i64 c, .slice A n ca]) ∧ Below w.heap.size w w' := by
  go_enter Tryz.func214, Tryz.ntmps214
  go_wp2_with fail
  exact bodyPost_ret (v := .agg #[.int .i64 r, .int .i64 c, .slice A n ca]) (by simp [results, Tryz.f214, go_sem]) rfl ⟨rfl, (Below.refl _ w).alloc (Nat.le_refl _) _⟩
set_option maxRecDepth 100000 in
set_option maxHeartbeats 1000000 in
theorem tocol_c (bG : Nat) (r c : Int) (A : Option Addr) (n ca cG : Nat) (l : List Val) (w : World) (hG : Blk w bG 28 #[.int .i64 r, .int .i64 c, .slice A n ca]) (hA : ManyR Val.cs 6 w A l) (hn : l.length = n) (hm : n ≤ 4096) (hl : l ≠ []) :
    Calls Tryz.prog 213 #[.slice (some ⟨bG, 0, none⟩) 1 cG] w (RetA w n 1 l) := by
  have HB := Lib.hid (((Below.refl _ w).alloc (Nat.le_refl _) (.cells #[.int .i64 0, .int .i64 0, .slice none 0 0] 28)).drew)
  have BX := Lib.hid ((Blk.new w 28 #[.int .i64 0, .int .i64 0, .slice none 0 0]).kept (w' := (w.alloc (.cells #[.int .i64 0, .int .i64 0, .slice none 0 0] 28)).drew) rfl)
  have BG := Lib.hid ((hG.alloc (.cells #[.int .i64 0, .int .i64 0, .slice none 0 0] 28)).kept (w' := (w.alloc (.cells #[.int .i64 0, .int .i64 0, .slice none 0 0] 28)).drew) rfl)
  have HCL := Lib.hid (clone_c A n ca l (w.alloc (.cells #[.int .i64 0, .int .i64 0, .slice none 0 0] 28)).drew (hA.next HB.out) hn hm hl)
  have HN := Lib.hid hn
  have HMD := Lib.hid (fun A' n' ca' W => made_c n 1 A' n' ca' W)
  have HLT := Lib.hid hG.lt
  clear hG hA hn hl
  have HC : AllCells (w.alloc (.cells #[.int .i64 0, .int .i64 0, .slice none 0 0] 28)).drew [(⟨bG, 2, none⟩, .slice A n ca)] := ⟨by simpa using BG.out.cell 2, trivial⟩
  go_enter Tryz.func213, Tryz.ntmps213
  go_wp2_with fail
  refine region_free _ [0, 1, 2, 3, 4, 5, 6, 7, 8] 3 (by kernel_rfl) (by kernel_rfl) (by kernel_rfl) (by kernel_rfl) (by kernel_rfl) (fun _ _ _ _ _ h => h) HC ?_
  intro hne hu
  simp only [AllCells] at hu
  simp only [pick, List.take_succ_cons, List.take_zero, List.drop_succ_cons, List.drop_zero, List.cons_append, List.nil_append]
  repeat (go_big_quiet_step (fail))
  refine wpQuiet_nil ?_
  clear hne hu
  refine anyN_oneL 9 (by kernel_rfl) ?_
  simp only [List.take_succ_cons, List.take_zero, List.drop_succ_cons, List.drop_zero]
  go_wp2_with fail
  refine HCL.out.mono ?_
  rintro x w1 ⟨A1, c1, rfl, hA1, hF1, B1⟩
  have HC1 := AllCells.below HC B1
  have BX1 := Lib.hid (BX.out.kept (B1.block _ BX.out.lt))
  have HB1 := Lib.hid (HB.out.trans (B1.mono HB.out.size))
  have HA1 := Lib.hid hA1
  have HF1 := Lib.hid (show ∀ a, A1 = some a → w.heap.size < a.block from fun a e => Nat.lt_of_lt_of_le BX.out.lt (hF1 a e))
  clear B1 BX HB HCL hA1 hF1 BG
  go_wp2_with fail
  refine And.intro (fun _ => HC1) ?_
  refine anyN_oneL 10 (by kernel_rfl) ?_
  simp only [List.take_succ_cons, List.take_zero, List.drop_succ_cons, List.drop_zero]
  go_wp2_with fail
  refine (HMD.out _ _ _ _).mono ?_
  rintro x w2 ⟨rfl, B1⟩
  have HC2 := AllCells.below HC1 B1
  have BX2 := Lib.hid (BX1.out.kept (B1.block _ BX1.out.lt))
  have HB2 := Lib.hid (HB1.out.trans (B1.mono HB1.out.size))
  have HA2 := Lib.hid (HA1.out.next B1)
  clear B1 BX1 HB1 HA1
  go_wp2_with fail
  refine And.intro (fun _ => HC2) ?_
  refine anyN_oneL 11 (by kernel_rfl) ?_
  simp only [List.take_succ_cons, List.take_zero, List.drop_succ_cons, List.drop_zero]
  have e0 := BX2.out.cell 0
  have e1 := BX2.out.cell 1
  have e2 := BX2.out.cell 2
  simp only [List.getElem?_toArray, List.getElem?_cons_zero, List.getElem?_cons_succ] at e0 e1 e2
  have f0 := BX2.out.frozen 0
  have f1 := BX2.out.frozen 1
  have f2 := BX2.out.frozen 2
  have lX := BX2.out.lt
  go_wp2_with fail
  refine And.intro (fun _ => ⟨cell_put3 (X := w.heap.size) HC2.1 (by have := HLT.out; omega) (.int .i64 n) (.int .i64 1) (.slice A1 l.length c1), trivial⟩) ?_
  refine ⟨by kernel_rfl, ?_⟩
  have HAt := Lib.hid (manyR_put3 HA2.out (X := w.heap.size) (fun a e => by have := HF1.out a e; omega) (.int .i64 n) (.int .i64 1) (.slice A1 l.length c1))
  have bXt := Lib.hid (blk_put3 BX2.out (.int .i64 n) (.int .i64 1) (.slice A1 l.length c1))
  have HBu := below_put3 HB2.out (Nat.le_refl _) (.int .i64 n) (.int .i64 1) (.slice A1 l.length c1)
  clear e0 e1 e2 f0 f1 f2 lX
  go_wp2_with fail
  change bodyPost _ _ _ _ _ (put3 w2 w.heap.size (.int .i64 n) (.int .i64 1) (.slice A1 l.length c1))
  generalize put3 w2 w.heap.size (.int .i64 n) (.int .i64 1) (.slice A1 l.length c1) = W2 at *
  have d0 := bXt.out.cell 0
  have d1 := bXt.out.cell 1
  have d2 := bXt.out.cell 2
  simp only [List.getElem?_toArray, List.getElem?_cons_zero, List.getElem?_cons_succ] at d0 d1 d2
  exact bodyPost_ret (v := .agg #[.int .i64 n, .int .i64 1, .slice A1 l.length c1]) (by simp [results, Tryz.f213, go_sem, d0, d1, d2]) rfl ⟨_, _, _, rfl, rfl, HAt.out, fun a e => Nat.le_of_lt (HF1.out a e), HBu⟩
set_option maxRecDepth 100000 in
set_option maxHeartbeats 1000000 in
theorem torow_c (bG : Nat) (r c : Int) (A : Option Addr) (n ca cG : Nat) (l : List Val) (w : World) (hG : Blk w bG 28 #[.int .i64 r, .int .i64 c, .slice A n ca]) (hA : ManyR Val.cs 6 w A l) (hn : l.length = n) (hm : n ≤ 4096) (hl : l ≠ []) :
    Calls Tryz.prog 216 #[.slice (some ⟨bG, 0, none⟩) 1 cG] w (RetA w 1 n l) := by
  have HB := Lib.hid (((Below.refl _ w).alloc (Nat.le_refl _) (.cells #[.int .i64 0, .int .i64 0, .slice none 0 0] 28)).drew)
  have BX := Lib.hid ((Blk.new w 28 #[.int .i64 0, .int .i64 0, .slice none 0 0]).kept (w' := (w.alloc (.cells #[.int .i64 0, .int .i64 0, .slice none 0 0] 28)).drew) rfl)
  have BG := Lib.hid ((hG.alloc (.cells #[.int .i64 0, .int .i64 0, .slice none 0 0] 28)).kept (w' := (w.alloc (.cells #[.int .i64 0, .int .i64 0, .slice none 0 0] 28)).drew) rfl)
  have HCL := Lib.hid (clone_c A n ca l (w.alloc (.cells #[.int .i64 0, .int .i64 0, .slice none 0 0] 28)).drew (hA.next HB.out) hn hm hl)
  have HN := Lib.hid hn
  have HMD := Lib.hid (fun A' n' ca' W => made_c 1 n A' n' ca' W)
  have HLT := Lib.hid hG.lt
  clear hG hA hn hl
  have HC : AllCells (w.alloc (.cells #[.int .i64 0, .int .i64 0, .slice none 0 0] 28)).drew [(⟨bG, 2, none⟩, .slice A n ca)] := ⟨by simpa using BG.out.cell 2, trivial⟩
  go_enter Tryz.func216, Tryz.ntmps216
  go_wp2_with fail
  refine region_free _ [0, 1, 2, 3, 4, 5, 6, 7, 8] 3 (by kernel_rfl) (by kernel_rfl) (by kernel_rfl) (by kernel_rfl) (by kernel_rfl) (fun _ _ _ _ _ h => h) HC ?_
  intro hne hu
  simp only [AllCells] at hu
  simp only [pick, List.take_succ_cons, List.take_zero, List.drop_succ_cons, List.drop_zero, List.cons_append, List.nil_append]
  repeat (go_big_quiet_step (fail))
  refine wpQuiet_nil ?_
  clear hne hu
  refine anyN_oneL 9 (by kernel_rfl) ?_
  simp only [List.take_succ_cons, List.take_zero, List.drop_succ_cons, List.drop_zero]
  go_wp2_with fail
  refine HCL.out.mono ?_
  rintro x w1 ⟨A1, c1, rfl, hA1, hF1, B1⟩
  have HC1 := AllCells.below HC B1
  have BX1 := Lib.hid (BX.out.kept (B1.block _ BX.out.lt))
  have HB1 := Lib.hid (HB.out.trans (B1.mono HB.out.size))
  have HA1 := Lib.hid hA1
  have HF1 := Lib.hid (show ∀ a, A1 = some a → w.heap.size < a.block from fun a e => Nat.lt_of_lt_of_le BX.out.lt (hF1 a e))
  clear B1 BX HB HCL hA1 hF1 BG
  go_wp2_with fail
  refine And.intro (fun _ => HC1) ?_
  refine anyN_oneL 10 (by kernel_rfl) ?_
  simp only [List.take_succ_cons, List.take_zero, List.drop_succ_cons, List.drop_zero]
  go_wp2_with fail
  refine (HMD.out _ _ _ _).mono ?_
  rintro x w2 ⟨rfl, B1⟩
  have HC2 := AllCells.below HC1 B1
  have BX2 := Lib.hid (BX1.out.kept (B1.block _ BX1.out.lt))
  have HB2 := Lib.hid (HB1.out.trans (B1.mono HB1.out.size))
  have HA2 := Lib.hid (HA1.out.next B1)
  clear B1 BX1 HB1 HA1
  go_wp2_with fail
  refine And.intro (fun _ => HC2) ?_
  refine anyN_oneL 11 (by kernel_rfl) ?_
  simp only [List.take_succ_cons, List.take_zero, List.drop_succ_cons, List.drop_zero]
  have e0 := BX2.out.cell 0
  have e1 := BX2.out.cell 1
  have e2 := BX2.out.cell 2
  simp only [List.getElem?_toArray, List.getElem?_cons_zero, List.getElem?_cons_succ] at e0 e1 e2
  have f0 := BX2.out.frozen 0
  have f1 := BX2.out.frozen 1
  have f2 := BX2.out.frozen 2
  have lX := BX2.out.lt
  go_wp2_with fail
  refine And.intro (fun _ => ⟨cell_put3 (X := w.heap.size) HC2.1 (by have := HLT.out; omega) (.int .i64 1) (.int .i64 n) (.slice A1 l.length c1), trivial⟩) ?_
  refine ⟨by kernel_rfl, ?_⟩
  have HAt := Lib.hid (manyR_put3 HA2.out (X := w.heap.size) (fun a e => by have := HF1.out a e; omega) (.int .i64 1) (.int .i64 n) (.slice A1 l.length c1))
  have bXt := Lib.hid (blk_put3 BX2.out (.int .i64 1) (.int .i64 n) (.slice A1 l.length c1))
  have HBu := below_put3 HB2.out (Nat.le_refl _) (.int .i64 1) (.int .i64 n) (.slice A1 l.length c1)
  clear e0 e1 e2 f0 f1 f2 lX
  go_wp2_with fail
  change bodyPost _ _ _ _ _ (put3 w2 w.heap.size (.int .i64 1) (.int .i64 n) (.slice A1 l.length c1))
  generalize put3 w2 w.heap.size (.int .i64 1) (.int .i64 n) (.slice A1 l.length c1) = W2 at *
  have d0 := bXt.out.cell 0
  have d1 := bXt.out.cell 1
  have d2 := bXt.out.cell 2
  simp only [List.getElem?_toArray, List.getElem?_cons_zero, List.getElem?_cons_succ] at d0 d1 d2
  exact bodyPost_ret (v := .agg #[.int .i64 1, .int .i64 n, .slice A1 l.length c1]) (by simp [results, Tryz.f216, go_sem, d0, d1, d2]) rfl ⟨_, _, _, rfl, rfl, HAt.out, fun a e => Nat.le_of_lt (HF1.out a e), HBu⟩
set_option maxRecDepth 100000 in
set_option maxHeartbeats 1000000 in
theorem transpose_c (bG : Nat) (R C : Nat) (A : Option Addr) (n ca cG : Nat) (l : List Val) (w : World) (hG : Blk w bG 28 #[.int .i64 R, .int .i64 C, .slice A n ca]) (hA : ManyR Val.cs 6 w A l) (hn : l.length = n) (hm : n ≤ 4096) (hf : ∀ v ∈ l, FitsV v) (hr : RightA R C l) :
    Calls Tryz.prog 217 #[.slice (some ⟨bG, 0, none⟩) 1 cG] w (RetA w C R (turnL R C l)) := by
  have HB := Lib.hid ((Below.refl _ w).alloc (Nat.le_refl _) (.cells #[.int .i64 0, .int .i64 0, .slice none 0 0] 28))
  have BX := Lib.hid (Blk.new w 28 #[.int .i64 0, .int .i64 0, .slice none 0 0])
  have BG := Lib.hid (hG.alloc (.cells #[.int .i64 0, .int .i64 0, .slice none 0 0] 28))
  have HTU := Lib.hid (turn_c R C A n ca l (w.alloc (.cells #[.int .i64 0, .int .i64 0, .slice none 0 0] 28)) (hA.next HB.out) hn hm hf hr)
  clear hG hA hn hf hr
  have g0 := BG.out.cell 0
  have g1 := BG.out.cell 1
  have g2 := BG.out.cell 2
  simp only [List.getElem?_toArray, List.getElem?_cons_zero, List.getElem?_cons_succ] at g0 g1 g2
  go_enter Tryz.func217, Tryz.ntmps217
  go_wp2_with fail
  refine HTU.out.mono ?_
  clear g0 g1 g2
  rintro y w9 ⟨A9, n9, ca9, rfl, hn9, hA9, hF9, B9⟩
  have BXt := Lib.hid (BX.out.kept (B9.block _ BX.out.lt))
  have HBt := Lib.hid (HB.out.trans (B9.mono HB.out.size))
  have HN9 := Lib.hid hn9
  have HF9 := Lib.hid (show ∀ a, A9 = some a → w.heap.size < a.block from fun a e => Nat.lt_of_lt_of_le BX.out.lt (hF9 a e))
  have HA9 := Lib.hid (manyR_put3 hA9 (X := w.heap.size) (fun a e => by have := HF9.out a e; omega) (.int .i64 C) (.int .i64 R) (.slice A9 n9 ca9))
  clear B9 hn9 hA9 hF9 BX HB
  have e0 := BXt.out.cell 0
  have e1 := BXt.out.cell 1
  have e2 := BXt.out.cell 2
  simp only [List.getElem?_toArray, List.getElem?_cons_zero, List.getElem?_cons_succ] at e0 e1 e2
  have f0 := BXt.out.frozen 0
  have f1 := BXt.out.frozen 1
  have f2 := BXt.out.frozen 2
  have lX := BXt.out.lt
  go_wp2_with fail
  change bodyPost _ _ _ _ _ (put3 w9 w.heap.size (.int .i64 C) (.int .i64 R) (.slice A9 n9 ca9))
  have bXt := Lib.hid (blk_put3 BXt.out (.int .i64 C) (.int .i64 R) (.slice A9 n9 ca9))
  have HBu := below_put3 HBt.out (Nat.le_refl _) (.int .i64 C) (.int .i64 R) (.slice A9 n9 ca9)
  generalize put3 w9 w.heap.size (.int .i64 C) (.int .i64 R) (.slice A9 n9 ca9) = W2 at *
  have d0 := bXt.out.cell 0
  have d1 := bXt.out.cell 1
  have d2 := bXt.out.cell 2
  simp only [List.getElem?_toArray, List.getElem?_cons_zero, List.getElem?_cons_succ] at d0 d1 d2
  exact bodyPost_ret (v := .agg #[(.int .i64 C), (.int .i64 R), .slice A9 n9 ca9]) (by simp [results, Tryz.f217, go_sem, d0, d1, d2]) rfl ⟨_, _, _, rfl, HN9.out, (by first | exact HA9.out | (rw [HEQ.out]; exact HA9.out)), fun a e => Nat.le_of_lt (HF9.out a e), HBu⟩
end Go.Proofs.YtdmbppgogdkpdaaGreatDoor
