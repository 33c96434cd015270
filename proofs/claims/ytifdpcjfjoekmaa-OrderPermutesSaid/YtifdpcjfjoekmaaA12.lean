/-
  slices.insertionSortCmpFunc at ints: its contract. Condition: the slice lies in a block of its own; what compares is the closure of order.Permutation.
-/
import Derived.Test.YtifdpcjfjoekmaaA11
namespace Go.Proofs.Ytifdpcjfjoekmaa
open Go.RowKit

/-- The closure tells cf, whatever became of the slice. -/
def CmpC (w : World) (g n : Nat) (cf : Nat → Nat → Int) (bl bk : Nat) : Prop := ∀ W, Off g w W → ∀ i j : Nat, i < n → j < n →
  Calls Try.prog 17 #[.int .i64 i, .int .i64 j, .pointer (some ⟨bl, 0, none⟩), .pointer (some ⟨bk, 0, none⟩)] W fun e w' => e = .returned (.int .i64 (cf i j)) ∧ Below W.heap.size W w'
def SrtP (w : World) (g n : Nat) (cf : Nat → Nat → Int) (d : List Nat) (a b : Nat) (e : Ending) (w' : World) : Prop := e = .returned (.tuple #[]) ∧ ∃ d', SS w g n w' d' ∧ Mv a b d d' ∧ Srt cf a b d'

set_option maxRecDepth 100000 in
set_option maxHeartbeats 8000000 in
theorem inssort_c (w : World) (g n cap a b bl bk : Nat) (cf : Nat → Nat → Int) (hC : CmpC w g n cf bl bk) (o : Ord cf n) (d : List Nat) (W : World) (h : SS w g n W d) (hu : Under n d) (hab : a ≤ b) (hb : b ≤ n) (hinc : ∀ p q, a ≤ p → p < q → q < b → D d p < D d q) (hn : n ≤ 1000000) :
    Calls Try.prog 29 #[.slice (some ⟨g, 0, none⟩) n cap, .int .i64 a, .int .i64 b, .func (.func 17) #[] #[.pointer (some ⟨bl, 0, none⟩), .pointer (some ⟨bk, 0, none⟩)]] W (SrtP w g n cf d a b) := by
  have H := Lib.hid h
  have HC := Lib.hid hC
  have HU := Lib.hid hu
  have HI := Lib.hid hinc
  have HO := Lib.hid o
  clear h hC hu hinc o
  go_enter Try.func29, Try.ntmps29
  go_wp2_with fail
  go_loopw [8] (fun i wr => ∃ x : Nat, i = .int .i64 x ∧ a + 1 ≤ x ∧ x ≤ n + 1 ∧ Hid (∃ d1, SS w g n wr d1 ∧ Mv a (min x b) d d1 ∧ Srt cf a (min x b) d1)) (fun i _ => n + 1 - (intOf i).toNat)
  case atStart => exact ⟨a + 1, by go_num, by omega, by omega, ⟨d, H.out, Mv.refl _ _ _, fun p q _ _ _ => by omega⟩⟩
  case round =>
    obtain ⟨x, rfl, hx, hxn, hS⟩ := hrel
    by_cases hlt : x < b
    · obtain ⟨d1, S, M, R⟩ := hS.out
      rw [Nat.min_eq_left (by omega)] at M R
      have HS := Lib.hid S
      have HM := Lib.hid M
      have HR := Lib.hid R
      have hu1 : Under n d1 := HU.out.perm M.perm
      have HU1 := Lib.hid hu1
      have hl1 : d1.length = n := S.len
      have HL1 := Lib.hid hl1
      have HV := Lib.hid (show ∀ p, a ≤ p → p < x → D d1 p < D d1 x from fun p p1 p2 => by
        obtain ⟨q, q1, q2, e⟩ := M.into p p1 p2
        rw [e, M.out x (.inr (Nat.le_refl _))]
        exact HI.out q x q1 q2 hlt)
      clear S M R hu1 hl1 hS
      have hjn : (x : Int) < (b : Int) := by omega
      go_wp2_with fail
      go_loopw [9] (fun i wr => ∃ j : Nat, i = .int .i64 j ∧ a ≤ j ∧ j ≤ x ∧ Hid (∃ dc, SS w g n wr dc ∧ Ins d1 dc x j ∧ ∀ p, j ≤ p → p < x → T cf (D d1 x) (D d1 p))) (fun i _ => (intOf i).toNat)
      case atStart => exact ⟨x, rfl, by omega, Nat.le_refl _, ⟨d1, HS.out, Ins.start _ _, fun p _ _ => by omega⟩⟩
      case round =>
        obtain ⟨j, rfl, hj, hjx, hS⟩ := hrel
        by_cases hja : a < j
        · obtain ⟨dc, S, I, hT⟩ := hS.out
          have ej : D dc j = D d1 x := by rw [I.at' j, if_pos rfl]
          have ej1 : D dc (j - 1) = D d1 (j - 1) := by rw [I.at' (j - 1), if_neg (by omega), if_neg (by omega)]
          have c1 := S.cell (p := j) (by omega)
          have c2 := S.cell (p := j - 1) (by omega)
          have f1 := S.blk.frozen j
          have f2 := S.blk.frozen (j - 1)
          have lg := S.blk.lt
          rw [ej] at c1
          rw [ej1] at c2
          have nx : D d1 x < n := HU1.out.at' (by rw [HL1.out]; omega)
          have ny : D d1 (j - 1) < n := HU1.out.at' (by rw [HL1.out]; omega)
          have hxy : D d1 (j - 1) < D d1 x := HV.out _ (by omega) (by omega)
          have HCC := Lib.hid (HC.out wr.drew (S.off.next ((Below.refl _ _).drew)) (D d1 x) (D d1 (j - 1)) nx ny)
          have HDC := Lib.hid (And.intro S (And.intro I hT))
          have HE := Lib.hid (And.intro ej ej1)
          obtain ⟨vx, hvx⟩ : ∃ v, D d1 x = v := ⟨_, rfl⟩
          obtain ⟨vy, hvy⟩ : ∃ v, D d1 (j - 1) = v := ⟨_, rfl⟩
          rw [hvx] at c1 HCC
          rw [hvy] at c2 HCC
          have HVX := Lib.hid hvx
          have HVY := Lib.hid hvy
          clear hvx hvy S I hT ej ej1 nx ny hS
          have HXY := Lib.hid hxy
          clear hxy
          have k1 : decide ((a : Int) < (j : Int)) = true := decide_eq_true (by omega)
          have j0 : (0 : Int) ≤ (j : Int) := by omega
          have j1 : (j : Int) < (n : Int) := by omega
          have s1 : (j : Int) - 1 = ((j - 1 : Nat) : Int) := by omega
          have jm0 : (0 : Int) ≤ (j : Int) - 1 := by omega
          have jm1 : (j : Int) - 1 < (n : Int) := by omega
          have t1 : ((j : Int) - 1).toNat = j - 1 := by omega
          have S1' := Lib.hid s1
          clear s1
          have hcells : AllCells wr.drew [(⟨g, j, none⟩, .int .i64 vx), (⟨g, j - 1, none⟩, .int .i64 vy)] := ⟨c1, c2, trivial⟩
          go_wp2_with fail
          refine region_free _ [0, 1, 2, 3, 4, 5, 6, 7, 8, 9, 10, 11, 12, 13] 3 (by kernel_rfl) (by kernel_rfl) (by kernel_rfl) (by kernel_rfl) (by kernel_rfl) (fun _ _ _ _ _ h => h) hcells ?_
          intro hne hu
          simp only [AllCells] at hu
          simp only [pick, List.take_succ_cons, List.take_zero, List.drop_succ_cons, List.drop_zero, List.cons_append, List.nil_append]
          repeat (go_big_quiet_step (fail))
          refine wpQuiet_nil ?_
          clear hne hu
          refine anyN_oneL 14 (by kernel_rfl) ?_
          simp only [List.take_succ_cons, List.take_zero, List.drop_succ_cons, List.drop_zero]
          go_wp2_with fail
          refine HCC.out.mono ?_
          rintro e w1 ⟨rfl, b1⟩
          have hcells1 := AllCells.below hcells b1
          have B1 := Lib.hid b1
          clear b1 HCC
          go_wp2_with fail
          refine And.intro (fun _ => hcells1) ?_
          refine anyN_more [15, 16] 0 (by kernel_rfl) (by kernel_rfl) (by kernel_rfl) (by kernel_rfl) (fun _ _ _ _ _ h => h) hcells1 ?_
          intro hne hu
          simp only [AllCells] at hu
          simp only [pick, List.take_succ_cons, List.take_zero, List.drop_succ_cons, List.drop_zero, List.cons_append, List.nil_append]
          repeat (go_big_quiet_step (fail))
          refine wpQuiet_nil ?_
          clear hne hu
          refine ⟨by kernel_rfl, ?_⟩
          clear hcells hcells1 c1 c2 f1 f2 lg
          by_cases hcf : cf vx vy < 0
          · have HT := Lib.hid (show T cf (D d1 x) (D d1 (j - 1)) from .inl (by rw [HVX.out, HVY.out]; exact hcf))
            have S1 := Lib.hid ((HDC.out.1.next ((Below.refl _ wr).drew)).next B1.out)
            have c1 : w1.cell? ⟨g, j, none⟩ = some (.int .i64 vx) := by rw [S1.out.cell (p := j) (by omega), HE.out.1, HVX.out]
            have c2 : w1.cell? ⟨g, j - 1, none⟩ = some (.int .i64 vy) := by rw [S1.out.cell (p := j - 1) (by omega), HE.out.2, HVY.out]
            have f1 := S1.out.blk.frozen j
            have f2 := S1.out.blk.frozen (j - 1)
            have lg := S1.out.blk.lt
            have HC : AllCells w1.drew [(⟨g, j, none⟩, .int .i64 vx), (⟨g, j - 1, none⟩, .int .i64 vy)] := ⟨c1, c2, trivial⟩
            have HNX := Lib.hid (show ∃ dc, SS w g n ((w1.setCell ⟨g, j, none⟩ (.int .i64 vy)).setCell ⟨g, j - 1, none⟩ (.int .i64 vx)) dc ∧ Ins d1 dc x (j - 1) ∧ ∀ p, j - 1 ≤ p → p < x → T cf (D d1 x) (D d1 p) from by
              have sw := S1.out.swap j (j - 1)
              rw [HE.out.1, HE.out.2, HVX.out, HVY.out] at sw
              refine ⟨_, sw, HDC.out.2.1.step (by omega) hjx (by rw [HL1.out]; omega), fun p p1 p2 => ?_⟩
              by_cases ep : p = j - 1
              · rw [ep]; exact HT.out
              · exact HDC.out.2.2 p (by omega) p2)
            clear HT HDC HE HXY k1 S1
            go_wp2_with fail
            refine region_free [] [0, 1, 2, 3, 4, 5, 6, 7, 8, 10, 11, 12] 6 (by kernel_rfl) (by kernel_rfl) (by kernel_rfl) (by kernel_rfl) (by kernel_rfl) (fun _ _ _ _ _ h => h) trivial ?_
            intro hne hu
            simp only [AllCells] at hu
            simp only [pick, List.take_succ_cons, List.take_zero, List.drop_succ_cons, List.drop_zero, List.cons_append, List.nil_append]
            repeat (go_big_quiet_step (fail))
            refine wpQuiet_nil ?_
            clear hne hu
            refine anyN_again [(⟨g, j, none⟩, .int .i64 vx), (⟨g, j - 1, none⟩, .int .i64 vy)] [9, 13] [0, 1, 2, 3, 4, 5, 6, 7, 8, 9, 10, 11, 12, 13] 4 (by kernel_rfl) (by kernel_rfl) (by kernel_rfl) (by kernel_rfl) (by kernel_rfl) (fun _ _ _ _ _ h => h) HC ?_
            intro hne hu
            simp only [AllCells] at hu
            simp only [pick, List.take_succ_cons, List.take_zero, List.drop_succ_cons, List.drop_zero, List.cons_append, List.nil_append]
            repeat (go_big_quiet_step (fail))
            refine wpQuiet_nil ?_
            clear hne hu
            refine anyN_restL 14 (by kernel_rfl) (by decide) (by kernel_rfl) ?_
            simp only [List.take_succ_cons, List.take_zero, List.drop_succ_cons, List.drop_zero]
            go_wp2_with fail
            clear HC
            go_roundw
            case rel =>
              refine ⟨j - 1, by rw [S1'.out], by omega, by omega, ?_⟩
              obtain ⟨dc, S', I', T'⟩ := HNX.out
              exact ⟨dc, S'.next ((Below.refl _ _).drew), I', T'⟩
            case measure => simp [intOf]; omega
          · have HT := Lib.hid (show T cf (D d1 (j - 1)) (D d1 x) from by
              rw [HVX.out, HVY.out]
              have := HXY.out
              rw [HVX.out, HVY.out] at this
              exact .inr ⟨hcf, this⟩)
            have HNX := Lib.hid (show ∃ d2, SS w g n w1 d2 ∧ Mv a (min (x + 1) b) d d2 ∧ Srt cf a (min (x + 1) b) d2 from by
              obtain ⟨S, I, hT⟩ := HDC.out
              rw [Nat.min_eq_left (by omega)]
              exact ⟨_, (S.next ((Below.refl _ wr).drew)).next B1.out, (HM.out.wide (Nat.le_refl _) (Nat.le_succ _)).trans (I.mv hj hjx), I.done HO.out HU1.out (by rw [HL1.out]; omega) hj hjx HR.out hT (.inr HT.out)⟩)
            clear HT HDC HE HXY k1 HS HM HR HV
            go_wp2_with fail
            go_roundw
            case rel => exact ⟨x + 1, by go_num, by omega, by omega, HNX.out⟩
            case measure => simp [intOf]; omega
        · have hjj : j = a := by omega
          subst hjj
          obtain ⟨dc, S, I, hT⟩ := hS.out
          have HNX := Lib.hid (show ∃ d2, SS w g n wr d2 ∧ Mv j (min (x + 1) b) d d2 ∧ Srt cf j (min (x + 1) b) d2 from by
            rw [Nat.min_eq_left (by omega)]
            exact ⟨_, S, (HM.out.wide (Nat.le_refl _) (Nat.le_succ _)).trans (I.mv hj hjx), I.done HO.out HU1.out (by rw [HL1.out]; omega) hj hjx HR.out hT (.inl rfl)⟩)
          have k1 : decide ((j : Int) < (j : Int)) = false := decide_eq_false (by omega)
          have hW : AllCells wr.drew [] := trivial
          clear S I hT hS HS HM HR HV
          go_wp2_with fail
          refine region_free [] [0, 1, 2, 3, 4, 5, 6, 7, 8, 9, 10, 11, 12, 13] 3 (by kernel_rfl) (by kernel_rfl) (by kernel_rfl) (by kernel_rfl) (by kernel_rfl) (fun _ _ _ _ _ h => h) trivial ?_
          intro hne hu
          simp only [AllCells] at hu
          simp only [pick, List.take_succ_cons, List.take_zero, List.drop_succ_cons, List.drop_zero, List.cons_append, List.nil_append]
          repeat (go_big_quiet_step (fail))
          refine wpQuiet_nil ?_
          clear hne hu
          refine anyN_oneL 14 (by kernel_rfl) ?_
          simp only [List.take_succ_cons, List.take_zero, List.drop_succ_cons, List.drop_zero]
          go_wp2_with fail
          refine And.intro (fun _ => hW) ?_
          refine anyN_more [15, 16] 0 (by kernel_rfl) (by kernel_rfl) (by kernel_rfl) (by kernel_rfl) (fun _ _ _ _ _ h => h) hW ?_
          intro hne hu
          simp only [AllCells] at hu
          simp only [pick, List.take_succ_cons, List.take_zero, List.drop_succ_cons, List.drop_zero, List.cons_append, List.nil_append]
          repeat (go_big_quiet_step (fail))
          refine wpQuiet_nil ?_
          clear hne hu
          refine ⟨by kernel_rfl, ?_⟩
          clear hW
          go_wp2_with fail
          go_roundw
          case rel =>
            refine ⟨x + 1, by go_num, by omega, by omega, ?_⟩
            obtain ⟨d2, S', M', R'⟩ := HNX.out
            exact ⟨d2, S'.next ((Below.refl _ _).drew), M', R'⟩
          case measure => simp [intOf]; omega
    · have hjn : decide ((x : Int) < (b : Int)) = false := decide_eq_false (by omega)
      go_wp2_with fail
      go_end0
      obtain ⟨d1, S, M, R⟩ := hS.out
      rw [Nat.min_eq_right (by omega)] at M R
      exact ⟨rfl, d1, S, M, R⟩
end Go.Proofs.Ytifdpcjfjoekmaa
