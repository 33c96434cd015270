/-
  package shape: build: its contract. Condition: the shape holds at most 4096 values; what the function tells of each place is said.
-/
import Derived.Test.YtccnkkffeokgcaaGreatDoorQ13
namespace Go.Proofs.YtccnkkffeokgcaaGreatDoor
open Go.RowKit
theorem Tryz.infoV : (Tryz.prog.info? 41).map (fun i => (i.zero, i.size, i.bytes)) = some (some (.agg #[.int .i64 0, .int .i64 0, .int .i64 0, .string ⟨#[]⟩, .bool false, .int .i64 0]), 6, 56) := by kernel_rfl
def BInv (w : World) (R C X : Nat) (m : List Val) (k : Nat) (W : World) : Prop := Below w.heap.size w W ∧ Blk W w.heap.size 24 #[.int .i64 0, .int .i64 0, .slice none 0 0] ∧ ∃ A c, Blk W X 24 #[.int .i64 R, .int .i64 C, .slice A k c] ∧ W.ownsRow w.heap.size 41 6 (.slice A k c) k ((m.take k).flatMap Val.cs)
set_option maxRecDepth 100000 in
set_option maxHeartbeats 4000000 in
theorem build_c (R C : Nat) (bf ba : Nat) (m : List Val) (w : World) (hR : 1 ≤ R) (hC : 1 ≤ C) (hm : m.length = R * C) (h4 : R * C ≤ 4096)
    (hE : ∀ W, Below w.heap.size w W → ∀ i j : Nat, i < R → j < C → ∀ h : i * C + j < m.length, Calls Tryz.prog 36 (#[.int .i64 i, .int .i64 j] ++ #[.pointer (some ⟨bf, 0, none⟩), .pointer (some ⟨ba, 0, none⟩)]) W (RetV W m[i * C + j])) :
    Calls Tryz.prog 35 #[.int .i64 R, .int .i64 C, .func (.func 36) #[] #[.pointer (some ⟨bf, 0, none⟩), .pointer (some ⟨ba, 0, none⟩)]] w (RetA w R C m) := by
  obtain ⟨i0, hi, hz0, hz1, hz2⟩ := info_parts Tryz.infoV
  have HE := Lib.hid hE
  have HM := Lib.hid hm
  obtain ⟨q, hq⟩ : ∃ q, R * C = q := ⟨_, rfl⟩
  have hq4 : q ≤ 4096 := by omega
  have HQ := Lib.hid hq
  have HRC := Lib.hid (show R ≤ 4096 ∧ C ≤ 4096 from ⟨Nat.le_trans (Nat.le_mul_of_pos_right R hC) h4, Nat.le_trans (Nat.le_mul_of_pos_left C hR) h4⟩)
  have wq : IntKind.i64.wrap ((R : Int) * (C : Int)) = (q : Int) := by
    rw [show (R : Int) * (C : Int) = (q : Int) by rw [← hq]; simp]
    exact IntWalk.i64_in _ (by omega)
  clear hE hm h4 hq
  have HB := Lib.hid ((Below.refl _ w).alloc (Nat.le_refl _) (.cells #[.int .i64 0, .int .i64 0, .slice none 0 0] 24))
  have BS := Lib.hid (Blk.new w 24 #[.int .i64 0, .int .i64 0, .slice none 0 0])
  go_enter Tryz.func35, Tryz.ntmps35
  go_wp2_with fail
  generalize w.alloc (.cells #[.int .i64 0, .int .i64 0, .slice none 0 0] 24) = V at *
  obtain ⟨w2, hrun, hr2, hg2⟩ := run_make_own (P := Tryz.prog) V w.heap.size 22 41 i0 _ 6 Tryz.underlying22 hi hz0 hz1 .i64 .i64 q (by rw [hz2]; omega) (by simp only [maxLen]; omega) HB.out.size
  rw [hrun]
  have HB2 := Lib.hid (below_grew HB.out hg2 (fun g hg => by cases hg))
  have BS2 := Lib.hid (BS.out.kept (hg2.block _ BS.out.lt (fun h => by cases h)))
  go_wp2_with fail
  have bl : Below w2.heap.size w2 (w2.alloc (.cells #[.int .i64 R, .int .i64 C, .slice (some ⟨V.heap.size, 0, none⟩) 0 q] 24)) := (Below.refl _ _).alloc (Nat.le_refl _) _
  have HI := Lib.hid (show BInv w R C w2.heap.size m 0 (w2.alloc (.cells #[.int .i64 R, .int .i64 C, .slice (some ⟨V.heap.size, 0, none⟩) 0 q] 24)) from
    ⟨HB2.out.trans (bl.mono HB2.out.size), BS2.out.alloc _, _, _, Blk.new w2 24 #[.int .i64 R, .int .i64 C, .slice (some ⟨V.heap.size, 0, none⟩) 0 q], ownsRow_kept hr2 (fun g _ hg => bl.block g hg)⟩)
  have HX := Lib.hid BS2.out.lt
  clear HB2 BS2 HB BS hr2 hg2 hrun bl
  generalize w2.alloc (.cells #[.int .i64 R, .int .i64 C, .slice (some ⟨V.heap.size, 0, none⟩) 0 q] 24) = W0 at *
  generalize w2.heap.size = X at *
  clear wq
  go_loopw [18] (fun i wr => ∃ a : Nat, a ≤ R ∧ i = .int .i64 a ∧ Hid (BInv w R C X m (a * C) wr)) (fun i _ => R - (intOf i).toNat)
  case atStart => exact ⟨0, Nat.zero_le _, rfl, by rw [Nat.zero_mul]; exact HI⟩
  case round =>
    obtain ⟨a, ha, rfl, hI⟩ := hrel
    by_cases hlt : a < R
    · have hax : (a : Int) < (R : Int) := by omega
      have wa : IntKind.i64.wrap ((a : Int) + 1) = (a : Int) + 1 := IntWalk.i64_in _ (by have := HRC.out; omega)
      go_wp2_with fail
      go_loopw [22] (fun i wr => ∃ j : Nat, j ≤ C ∧ i = .int .i64 j ∧ Hid (BInv w R C X m (a * C + j) wr)) (fun i _ => C - (intOf i).toNat)
      case atStart => exact ⟨0, Nat.zero_le _, rfl, by rw [Nat.add_zero]; exact hI⟩
      case round =>
        obtain ⟨j, hj, rfl, hI2⟩ := hrel
        by_cases hjt : j < C
        · have hjx : (j : Int) < (C : Int) := by omega
          have wj : IntKind.i64.wrap ((j : Int) + 1) = (j : Int) + 1 := IntWalk.i64_in _ (by have := HRC.out; omega)
          go_wp2_with fail
          obtain ⟨HB3, BS3, A, c, BX3, hr3⟩ := hI2.out
          obtain ⟨k, hk⟩ : ∃ k, a * C + j = k := ⟨_, rfl⟩
          have hkl : a * C + j < m.length := by
            rw [HM.out]
            have : (a + 1) * C ≤ R * C := Nat.mul_le_mul_right C hlt
            rw [Nat.succ_mul] at this
            omega
          have HE1 := Lib.hid (fun W hW => HE.out W hW a j hlt hjt hkl)
          have hk4 : k < 4096 := by have := HM.out; have := HQ.out; omega
          simp only [hk] at HE1 hkl hr3 BX3 hI2
          have HT := Lib.hid (show m.take (k + 1) = m.take k ++ [m[k]] from by rw [List.take_succ_eq_append_getElem hkl])
          generalize m[k] = z at *
          obtain ⟨zk, zm, ze, zt, zb, zf⟩ := z
          have HE2 := Lib.hid (fun W hW => show Calls Tryz.prog 36 (#[.int .i64 a, .int .i64 j] ++ #[.pointer (some ⟨bf, 0, none⟩), .pointer (some ⟨ba, 0, none⟩)]) W (fun x w' => x = .returned (.agg #[.int .i64 zk, .int .i64 zm, .int .i64 ze, .string zt, .bool zb, .int .i64 zf]) ∧ Below W.heap.size W w') from HE1.out W hW)
          have hB3 := Lib.hid HB3
          have bS3 := Lib.hid BS3
          have bX3 := Lib.hid BX3
          have hR3 := Lib.hid hr3
          clear HE1 hI2 HB3 BS3 BX3 hr3 hkl
          have HC : AllCells wr.drew [(⟨X, 2, none⟩, .slice A k c)] := ⟨by
            have := (bX3.out.kept (w' := wr.drew) rfl).cell 2
            simpa using this, trivial⟩
          refine region_picked _ [0, 1, 2, 3, 4] [0, 1, 2, 3, 4, 5, 6, 7, 8] 5 (by kernel_rfl) (by kernel_rfl) (by kernel_rfl) (by kernel_rfl) (by kernel_rfl) (by kernel_rfl) (fun _ _ _ _ _ h => h) HC ?_
          intro hne hu
          simp only [AllCells] at hu
          simp only [pick, List.take_succ_cons, List.take_zero, List.drop_succ_cons, List.drop_zero, List.cons_append, List.nil_append]
          repeat (go_big_quiet_step (fail))
          refine wpQuiet_nil ?_
          clear hne hu
          refine anyN_oneL 5 (by kernel_rfl) ?_
          simp only [List.take_succ_cons, List.take_zero, List.drop_succ_cons, List.drop_zero]
          go_wp2_with fail
          refine (HE2.out _ hB3.out.drew).mono ?_
          rintro y w1 ⟨rfl, B1⟩
          have hB4 := Lib.hid (hB3.out.drew.trans (B1.mono hB3.out.size))
          have hS4 := Lib.hid (bS3.out.kept (show w1.heap[w.heap.size]? = wr.heap[w.heap.size]? from B1.block _ bS3.out.lt))
          have hX4 := Lib.hid (bX3.out.kept (show w1.heap[X]? = wr.heap[X]? from B1.block _ bX3.out.lt))
          have hR4 := Lib.hid (ownsRow_kept hR3.out (w' := w1) (fun g _ hg => B1.block g hg))
          clear B1 hB3 bS3 bX3 hR3 HC
          have HC4 : AllCells w1 [(⟨X, 2, none⟩, .slice A k c)] := ⟨by simpa using hX4.out.cell 2, trivial⟩
          go_wp2_with fail
          refine And.intro (fun _ => HC4) ?_
          refine anyN_oneL 6 (by kernel_rfl) ?_
          simp only [List.take_succ_cons, List.take_zero, List.drop_succ_cons, List.drop_zero]
          have HSz := Lib.hid hB4.out.size
          go_wp2_with fail
          have bl : Below w1.heap.size w1 (w1.alloc (.cells #[.int .i64 zk, .int .i64 zm, .int .i64 ze, .string zt, .bool zb, .int .i64 zf] 41)) := (Below.refl _ w1).alloc (Nat.le_refl _) _
          have hB5 := Lib.hid (hB4.out.trans (bl.mono hB4.out.size))
          have hS5 := Lib.hid (hS4.out.kept (bl.block _ hS4.out.lt))
          have hX5 := Lib.hid (hX4.out.kept (bl.block _ hX4.out.lt))
          have hR5 := Lib.hid (ownsRow_kept hR4.out (w' := w1.alloc (.cells #[.int .i64 zk, .int .i64 zm, .int .i64 ze, .string zt, .bool zb, .int .i64 zf] 41)) (fun g _ hg => bl.block g hg))
          have HSrc : Hid (∀ ad, some (⟨w1.heap.size, 0, none⟩ : Addr) = some ad → ∀ j u, [Value.int .i64 zk, .int .i64 zm, .int .i64 ze, .string zt, .bool zb, .int .i64 zf][j]? = some u → (w1.alloc (.cells #[.int .i64 zk, .int .i64 zm, .int .i64 ze, .string zt, .bool zb, .int .i64 zf] 41)).cell? (ad.add j) = some u) := fun ad hE j u hj => by
            cases hE
            have := (Blk.new w1 41 #[.int .i64 zk, .int .i64 zm, .int .i64 ze, .string zt, .bool zb, .int .i64 zf]).cell j
            rw [add_at, Nat.zero_add]
            refine this.trans ?_
            simpa using hj
          clear bl HC4 hB4 hS4 hX4 hR4
          have HC5 : AllCells (w1.alloc (.cells #[.int .i64 zk, .int .i64 zm, .int .i64 ze, .string zt, .bool zb, .int .i64 zf] 41)) [(⟨X, 2, none⟩, .slice A k c)] := ⟨by simpa using hX5.out.cell 2, trivial⟩
          refine And.intro (fun _ => HC5) ?_
          refine anyN_oneL 7 (by kernel_rfl) ?_
          simp only [List.take_succ_cons, List.take_zero, List.drop_succ_cons, List.drop_zero]
          have HBase := Lib.hid (ownsRow_base hR5.out)
          have HNe := Lib.hid (ownsRow_ne hR5.out hX5.out (by decide))
          have HNs := Lib.hid (ownsRow_ne hR5.out hS5.out (by decide))
          have HS5 := Lib.hid hB5.out.size
          go_wp2_with (at_builtin; refine wpList_append_src _ rfl _ _ _ rfl w.heap.size 41 i0 _ 6 56 Tryz.underlying22 hi hz0 hz1 hz2 rfl (by omega) _ k ((m.take k).flatMap Val.cs) rfl hR5.out (some ⟨w1.heap.size, 0, none⟩) 1 1 [.int .i64 zk, .int .i64 zm, .int .i64 ze, .string zt, .bool zb, .int .i64 zf] rfl (fun e => by cases e) rfl HSrc.out (by simp [Value.oneCell']) (by simp only [maxLen]; omega) (by omega) HS5.out ?_; intro v2 w3 hr6 hg6 hat6)
          have hR6 := Lib.hid (show w3.ownsRow w.heap.size 41 6 v2 (k + 1) ((m.take (k + 1)).flatMap Val.cs) by rw [HT.out, List.flatMap_append]; exact hr6)
          have hB6 := Lib.hid (below_grew hB5.out hg6 (fun g hg => HBase.out g hg))
          have hX6 := Lib.hid (hX5.out.kept (hg6.block _ hX5.out.lt (fun e => HNe.out _ e.symm rfl)))
          have hS6 := Lib.hid (hS5.out.kept (hg6.block _ hS5.out.lt (fun e => HNs.out _ e.symm rfl)))
          clear hr6 hg6 hat6 HC5 hB5 hX5 hR5 hS5
          have HC6 : AllCells w3 [(⟨X, 2, none⟩, .slice A k c)] := ⟨by simpa using hX6.out.cell 2, trivial⟩
          obtain ⟨A2, c2, rfl, hAc⟩ := ownsRow_shape hR6.out
          clear hAc
          refine And.intro (fun _ => HC6) ?_
          refine anyN_oneL 8 (by kernel_rfl) ?_
          simp only [List.take_succ_cons, List.take_zero, List.drop_succ_cons, List.drop_zero]
          go_wp2_with fail
          refine And.intro (fun _ => HC6) ?_
          refine anyN_oneL 9 (by kernel_rfl) ?_
          simp only [List.take_succ_cons, List.take_zero, List.drop_succ_cons, List.drop_zero]
          have x0 := hX6.out.cell 0
          have x1 := hX6.out.cell 1
          have x2 := hX6.out.cell 2
          simp only [List.getElem?_toArray, List.getElem?_cons_zero, List.getElem?_cons_succ] at x0 x1 x2
          have f0 := hX6.out.frozen 0
          have f1 := hX6.out.frozen 1
          have f2 := hX6.out.frozen 2
          have lX := hX6.out.lt
          go_wp2_with fail
          refine And.intro (fun h => by cases h) ?_
          have hX7 := Lib.hid (show Blk (w3.setCell ⟨X, 2, none⟩ (.slice A2 (k + 1) c2)) X 24 #[.int .i64 R, .int .i64 C, .slice A2 (k + 1) c2] by simpa using hX6.out.store 2 (.slice A2 (k + 1) c2))
          have hS7 := Lib.hid (hS6.out.far (p := ⟨X, 2, none⟩) (show w.heap.size ≠ X from fun e => by have := HX.out; omega) (.slice A2 (k + 1) c2))
          have hB7 := Lib.hid (hB6.out.setCell (p := ⟨X, 2, none⟩) (Nat.le_of_lt HX.out) (.slice A2 (k + 1) c2))
          have hR7 := Lib.hid (ownsRow_kept hR6.out (w' := w3.setCell ⟨X, 2, none⟩ (.slice A2 (k + 1) c2)) (fun g hg _ => Below.heap_setCell _ _ _ _ (ownsRow_ne hR6.out hX6.out (by decide) g hg)))
          clear x0 x1 x2 f0 f1 f2 lX HC6
          refine ⟨by kernel_rfl, ?_⟩
          go_wp2_with fail
          exact ⟨⟨j + 1, hjt, by go_num, Lib.hid (show BInv w R C X m (a * C + (j + 1)) _ by rw [← Nat.add_assoc, hk]; exact ⟨hB7.out, hS7.out, _, _, hX7.out, hR7.out⟩)⟩, by simp [intOf]; omega⟩
        · obtain rfl : j = C := by omega
          have hjj : decide ((j : Int) < (j : Int)) = false := decide_eq_false (by omega)
          go_wp2_with fail
          exact ⟨⟨a + 1, hlt, by go_num, by rw [Nat.succ_mul]; exact hI2⟩, by simp [intOf]; omega⟩
    · obtain rfl : a = R := by omega
      have hjj : decide ((a : Int) < (a : Int)) = false := decide_eq_false (by omega)
      obtain ⟨HB3, BS3, A, c, BX3, hr3⟩ := hI.out
      have hB3 := Lib.hid HB3
      have hS3 := Lib.hid BS3
      have hX3 := Lib.hid BX3
      have HF := Lib.hid (manyR_of_row (f := Val.cs) (k := 6) (fun _ => rfl) (by omega) hr3)
      have HBase := Lib.hid (ownsRow_base hr3)
      have HNs := Lib.hid (ownsRow_ne hr3 BS3 (by decide))
      have HFr := Lib.hid (show ∀ z, A = some z → w.heap.size ≤ z.block ∧ z.block ≠ w.heap.size from fun z hz => by
        subst hz
        rcases hr3.2 with ⟨hv, _⟩ | ⟨g, cap, cur, hv, _⟩
        · cases hv
        · cases hv
          exact ⟨HBase.out g rfl, HNs.out g rfl⟩)
      clear HB3 BS3 BX3 hr3
      have x0 := hX3.out.cell 0
      have x1 := hX3.out.cell 1
      have x2 := hX3.out.cell 2
      simp only [List.getElem?_toArray, List.getElem?_cons_zero, List.getElem?_cons_succ] at x0 x1 x2
      have e0 := hS3.out.cell 0
      have e1 := hS3.out.cell 1
      have e2 := hS3.out.cell 2
      simp only [List.getElem?_toArray, List.getElem?_cons_zero, List.getElem?_cons_succ] at e0 e1 e2
      have f0 := hS3.out.frozen 0
      have f1 := hS3.out.frozen 1
      have f2 := hS3.out.frozen 2
      have lX := hS3.out.lt
      go_wp2_with fail
      change bodyPost _ _ _ _ _ (put3 wr w.heap.size (.int .i64 a) (.int .i64 C) (.slice A (a * C) c))
      have HE := Lib.hid (show m.take (a * C) = m from List.take_of_length_le (by rw [HM.out]; exact Nat.le_refl _))
      have HA := Lib.hid (manyR_put3 (X := w.heap.size) (show ManyR Val.cs 6 wr A m by have := HF.out.2; rwa [HE.out] at this) (fun z hz => (HFr.out z hz).2) (.int .i64 a) (.int .i64 C) (.slice A (a * C) c))
      have hX4 := Lib.hid (blk_put3 hS3.out (.int .i64 a) (.int .i64 C) (.slice A (a * C) c))
      have hB4 := below_put3 hB3.out (Nat.le_refl _) (.int .i64 a) (.int .i64 C) (.slice A (a * C) c)
      clear x0 x1 x2 e0 e1 e2 f0 f1 f2 lX
      generalize put3 wr w.heap.size (.int .i64 a) (.int .i64 C) (.slice A (a * C) c) = W2 at *
      have d0 := hX4.out.cell 0
      have d1 := hX4.out.cell 1
      have d2 := hX4.out.cell 2
      simp only [List.getElem?_toArray, List.getElem?_cons_zero, List.getElem?_cons_succ] at d0 d1 d2
      exact bodyPost_ret (v := .agg #[.int .i64 a, .int .i64 C, .slice A (a * C) c]) (by simp [results, Tryz.f35, go_sem, d0, d1, d2]) rfl ⟨_, _, _, rfl, HM.out, HA.out, fun z hz => (HFr.out z hz).1, hB4⟩
end Go.Proofs.YtccnkkffeokgcaaGreatDoor
