/-
  counterpanelaw03.same: it tells true of an axis and the document's axis with the same ids. Condition: both lie in memory.
-/
import Derived.Test.YtgmlhpkhecbkoaaQ3
import Derived.Test.YtgmlhpkhecbkoaaN4
namespace Go.Proofs.Ytgmlhpkhecbkoaa
open Go.RowKit Go.Shelf

attribute [local go_sem] Oper.semAt_some

@[go_sem ↓] theorem Try.eqlfunc75 (w : World) (f : Nat) (lb : Array Value) : (binOp .eql 75 (.func (.func f) #[] lb) .nilFunc).run Try.prog w = .ok (.bool false) w := by kernel_rfl

theorem Blk.own {W W' : World} {g : Nat} {e : TypeId} {cs : Array Value} {row : Option Nat} (h : Blk W g e cs) (hg : W.grownBy W' row) (hr : ∀ r, row = some r → ∃ o : Obj, W.heap[r]? = some o ∧ o.isCells = false) : Blk W' g e cs :=
  (hg.block g h.lt (fun e => by
    obtain ⟨o, ho, hc⟩ := hr g e.symm
    rw [show W.heap[g]? = _ from h] at ho
    cases ho
    cases hc)).trans h
theorem below_own {S : Nat} {w W W' : World} {row : Option Nat} {B : Nat} (h : Below S w W) (hw : S ≤ w.heap.size) (hB : w.heap.size ≤ B) (hg : W.grownBy W' row) (hr : ∀ r, row = some r → B ≤ r) : Below S w W' :=
  ⟨hg.os.trans h.os, hg.tape.trans h.tape, hg.output.trans h.output, Nat.le_trans h.size hg.size, fun k hk => (hg.block k (Nat.lt_of_lt_of_le hk (Nat.le_trans hw h.size)) (fun e => by have := hr k e.symm; omega)).trans (h.block k hk)⟩

theorem pre_next {zs pre : List (Id × Bool)} {x y : Id × Bool} (h : pre <+: zs) (hy : zs[pre.length]? = some y) : (pre ++ [x] <+: zs) ↔ x = y := by
  obtain ⟨r, rfl⟩ := h
  constructor
  · rintro ⟨r', hr⟩
    rw [List.append_assoc] at hr
    have := List.append_cancel_left hr
    subst this
    simpa using hy
  · rintro rfl
    rw [List.getElem?_append_right (Nat.le_refl _), Nat.sub_self] at hy
    cases r with
    | nil => simp at hy
    | cons z r =>
      have : z = x := by simpa using hy
      subst this
      exact ⟨r, by simp⟩
theorem pre_end {zs pre : List (Id × Bool)} {x : Id × Bool} (hl : zs.length ≤ pre.length) : ¬ (pre ++ [x] <+: zs) := fun h => by
  have := h.length_le
  simp at this
  omega

/-- What the loop of same keeps. -/
structure SI (w : World) (q : Nat) (zs pre : List (Id × Bool)) (W : World) : Prop where
  bx : Blk W w.heap.size 50 #[.pointer (some ⟨q, 0, none⟩)]
  br : Blk W (w.heap.size + 1) 4 #[.bool false]
  bk : Blk W (w.heap.size + 1 + 1) 3 #[.int .i64 (pre.length : Int)]
  below : Below w.heap.size w W
  pre : pre <+: zs
def Fo41 (w : World) (_ : World) (k : Nat) : Prop := k ≠ w.heap.size + 1 ∧ k ≠ w.heap.size + 1 + 1
theorem fo41_ok (w : World) : FoOK (Fo41 w) := fun _ _ _ _ h _ _ => h
theorem SI.own {w : World} {q B : Nat} {zs : List (Id × Bool)} (hB : w.heap.size ≤ B) : OwnFrom B (SI w q zs) := fun pre W W' row h hg hr =>
  ⟨h.bx.own hg (fun r e => (hr r e).2), h.br.own hg (fun r e => (hr r e).2), h.bk.own hg (fun r e => (hr r e).2), below_own h.below (Nat.le_refl _) hB hg (fun r e => (hr r e).1), h.pre⟩
theorem SI.alloc {w W : World} {q : Nat} {zs pre : List (Id × Bool)} (h : SI w q zs pre W) (o : Obj) : SI w q zs pre (W.alloc o) :=
  ⟨h.bx.alloc o, h.br.alloc o, h.bk.alloc o, h.below.trans ((Below.refl _ _).alloc h.below.size o), h.pre⟩
theorem SI.drew {w W : World} {q : Nat} {zs pre : List (Id × Bool)} (h : SI w q zs pre W) : SI w q zs pre W.drew :=
  ⟨h.bx, h.br, h.bk, h.below.drew, h.pre⟩
theorem SI.step {w W : World} {q : Nat} {zs pre : List (Id × Bool)} {x : Id × Bool} (h : SI w q zs pre W) (hx : pre ++ [x] <+: zs) : SI w q zs (pre ++ [x]) (W.setCell ⟨w.heap.size + 1 + 1, 0, none⟩ (.int .i64 ((pre.length : Int) + 1))) := by
  refine ⟨h.bx.far (by simp; omega) _, h.br.far (by simp) _, ?_, h.below.setCell (by simp; omega) _, hx⟩
  have := h.bk.store 0 (.int .i64 ((pre.length : Int) + 1))
  simpa using this

set_option maxRecDepth 100000 in
set_option maxHeartbeats 4000000 in
theorem same41_c (w : World) (own own2 : Tags) (t u p q : Nat) (ids : List Id) (live : List Bool) (ha : AxisAt w own t p ids live) (hx : RefAt w own2 u q ids live) :
    Calls Try.prog 41 #[.pointer (some ⟨p, 0, none⟩), .pointer (some ⟨q, 0, none⟩)] w fun e w' => e = .returned (.bool true) ∧ Below w.heap.size w w' := by
  have HA := Lib.hid ha
  have HX := Lib.hid hx
  clear ha hx
  refine (callsIn_wide (n := 3)).1 (callsIn_of_wp_marks Try.func41 rfl trivial ?_ rfl)
  simp only [Try.ntmps41, List.size_toArray, List.length_cons, List.length_nil, Nat.reduceAdd, Nat.reduceSub, Array.replicate_succ, Array.replicate_zero, List.push_toArray, List.append_toArray, List.nil_append, List.cons_append]
  refine wpIn_wide.2 ?_
  go_wp2_with fail
  refine (all_c _ _).mono ?_
  rintro e w1 ⟨rfl, rfl⟩
  go_wp2_with fail
  have s0 : Hid (SI w q (ids.zip live) [] ((((w.alloc (Obj.cells #[Value.pointer (some ⟨q, 0, none⟩)] 50)).alloc (Obj.cells #[Value.bool false] 4)).alloc (Obj.cells #[Value.int IntKind.i64 0] 3)).alloc (Obj.cells #[Value.pointer (some ⟨p, 0, none⟩)] 26))) := by
    refine ⟨(((Blk.new w 50 _).alloc _).alloc _).alloc _, ?_, ?_, (((((Below.refl _ w).alloc (Nat.le_refl _) _).alloc (by simp) _).alloc (by simp; omega) _).alloc (by simp; omega) _), List.nil_prefix⟩
    · have := ((Blk.new (w.alloc (Obj.cells #[Value.pointer (some ⟨q, 0, none⟩)] 50)) 4 #[Value.bool false]).alloc (Obj.cells #[Value.int IntKind.i64 0] 3)).alloc (Obj.cells #[Value.pointer (some ⟨p, 0, none⟩)] 26)
      simpa using this
    · have := (Blk.new ((w.alloc (Obj.cells #[Value.pointer (some ⟨q, 0, none⟩)] 50)).alloc (Obj.cells #[Value.bool false] 4)) 3 #[Value.int IntKind.i64 0]).alloc (Obj.cells #[Value.pointer (some ⟨p, 0, none⟩)] 26)
      simpa using this
  have b0 : Hid (((((w.alloc (Obj.cells #[Value.pointer (some ⟨q, 0, none⟩)] 50)).alloc (Obj.cells #[Value.bool false] 4)).alloc (Obj.cells #[Value.int IntKind.i64 0] 3)).alloc (Obj.cells #[Value.pointer (some ⟨p, 0, none⟩)] 26)).cell? ⟨w.heap.size + 1 + 1 + 1, 0, none⟩ = some (.pointer (some ⟨p, 0, none⟩))) := by
    have := (Blk.new (((w.alloc (Obj.cells #[Value.pointer (some ⟨q, 0, none⟩)] 50)).alloc (Obj.cells #[Value.bool false] 4)).alloc (Obj.cells #[Value.int IntKind.i64 0] 3)) 26 #[Value.pointer (some ⟨p, 0, none⟩)]).cell 0
    show _ = _
    simpa using this
  have hsz : ((((w.alloc (Obj.cells #[Value.pointer (some ⟨q, 0, none⟩)] 50)).alloc (Obj.cells #[Value.bool false] 4)).alloc (Obj.cells #[Value.int IntKind.i64 0] 3)).alloc (Obj.cells #[Value.pointer (some ⟨p, 0, none⟩)] 26)).heap.size = w.heap.size + 4 := by simp
  generalize ((((w.alloc (Obj.cells #[Value.pointer (some ⟨q, 0, none⟩)] 50)).alloc (Obj.cells #[Value.bool false] 4)).alloc (Obj.cells #[Value.int IntKind.i64 0] 3)).alloc (Obj.cells #[Value.pointer (some ⟨p, 0, none⟩)] 26)) = W0 at *
  refine (wpIn_wide (n := 3)).1 ?_
  refine wpIn_rangeFunc_ownH rfl (by omega) (gf := 70) (lb := #[.pointer (some ⟨w.heap.size + 1 + 1 + 1, 0, none⟩)]) rfl trivial (enters_of Try.func70 (by kernel_rfl) rfl)
    (all70_stops 2 (by omega) (w.heap.size + 1 + 1 + 1) p t own ids live (Fo41 w) (fo41_ok w) W0 (fun _ _ k hk => ⟨by omega, by omega⟩) b0.out (HA.out.keep (Same.below s0.out.below))) KF.trans (fun W l o o' _ h1 h2 _ => KF.put (fo41_ok w) W l o o' h1 h2) (Below.refl _ _) (fun _ => rfl)
    (SI w q (ids.zip live)) (fun _ pre _ => ¬ pre <+: ids.zip live) (SI.own (by omega)) (fun _ => ownFrom_pure _ _) s0.out
    (fun x a' W => ∃ Bx, w.heap.size + 1 + 1 < Bx ∧ Blk W Bx 24 #[.int .i64 x.1.1, .int .i64 x.1.2] ∧ a' = { tmps := #[.pointer (some ⟨p, 0, none⟩), .pointer (some ⟨q, 0, none⟩), undef, .pointer (some ⟨w.heap.size, 0, none⟩), .pointer (some ⟨w.heap.size + 1, 0, none⟩), .pointer (some ⟨w.heap.size + 1 + 1, 0, none⟩), .func (.func 70) #[] #[.pointer (some ⟨w.heap.size + 1 + 1 + 1, 0, none⟩)], .pointer (some ⟨Bx, 0, none⟩), .bool x.2, .pointer (some ⟨p, 0, none⟩), .func (.func 70) #[] #[.pointer (some ⟨w.heap.size + 1 + 1 + 1, 0, none⟩)], .func (.func 70) #[] #[.pointer (some ⟨w.heap.size + 1 + 1 + 1, 0, none⟩)], .bool false, .func (.func 70) #[] #[.pointer (some ⟨w.heap.size + 1 + 1 + 1, 0, none⟩)], .agg #[.int .i64 x.1.1, .int .i64 x.1.2], .bool x.2, undef, undef, undef, undef, undef, undef, undef, undef, undef, undef, undef, undef, undef, undef, undef, undef, undef, undef, undef, undef, undef, undef, undef, undef, undef, undef, undef, undef, undef, undef, undef, undef, undef, undef, undef, undef, undef, undef], defers := [] })
    (fun x a' _ W W' row hs hg hr => by
      obtain ⟨Bx, h1, h2, h3⟩ := hs
      exact ⟨Bx, h1, h2.own hg (fun r e => (hr r e).2), h3⟩) ?assign ?body ?done ?stop
  case assign =>
    rintro l pre x W K hi hK
    unfold pairv
    gi_wp2
    refine hK _ _ ((KeepsOthers.alloc _ _).from _) (KF.below (fo41_ok w) ((Below.refl _ W).alloc (Nat.le_refl _) _)) (hi.alloc _) ⟨W.heap.size, ?_, Blk.new W 24 _, rfl⟩
    have := hi.bk.lt
    omega
  case body =>
    rintro l pre x a' W hl ⟨r, hr⟩ hI ⟨Bx, hBx, bX, rfl⟩ hlt
    have hx := HX.out.next hI.below
    have HI := Lib.hid hI
    have c2 : W.cell? ⟨w.heap.size + 1 + 1, 0, none⟩ = some (.int .i64 (pre.length : Int)) := hI.bk.cell 0
    have c3 : W.cell? ⟨w.heap.size, 0, none⟩ = some (.pointer (some ⟨q, 0, none⟩)) := hI.bx.cell 0
    have c4 : W.cell? ⟨w.heap.size + 1, 0, none⟩ = some (.bool false) := hI.br.cell 0
    have f4 := hI.br.frozen 0
    have f2 := hI.bk.frozen 0
    have e0 : W.cell? ⟨Bx, 0, none⟩ = some (.int .i64 x.1.1) := bX.cell 0
    have e1 : W.cell? ⟨Bx, 1, none⟩ = some (.int .i64 x.1.2) := bX.cell 1
    have hsl : w.heap.size + 1 + 1 < W.heap.size := hI.bk.lt
    have Hpre := Lib.hid hI.pre
    have hkl : pre.length ≤ ids.length := Nat.le_trans hI.pre.length_le (by rw [List.length_zip]; omega)
    have hle := HX.out.le
    clear hI hr bX
    obtain ⟨⟨i1, i2⟩, xb⟩ := x
    dsimp only at e0 e1 ⊢
    by_cases hk : pre.length < ids.length
    · obtain ⟨bI, oI, cI, bL, oL, cL, z1, z2, b, c0, c1, g1, g2, g3, hz, hb⟩ := hx.look hk
      have hzip : (ids.zip live)[pre.length]? = some ((z1, z2), b) := by rw [List.getElem?_zip_eq_some]; exact ⟨hz, hb⟩
      have Hn := Lib.hid (pre_next (x := ((i1, i2), xb)) Hpre.out hzip)
      clear hz hb hzip hx
      have hk0 : (0 : Int) ≤ (pre.length : Int) := by omega
      have hkn : (pre.length : Int) < (ids.length : Int) := by omega
      have hd : decide (ids.length ≤ pre.length) = false := by simp; omega
      have HC : AllCells W.drew [(⟨w.heap.size + 1 + 1, 0, none⟩, .int .i64 (pre.length : Int)), (⟨w.heap.size, 0, none⟩, .pointer (some ⟨q, 0, none⟩)), (⟨q, 0, none⟩, .slice (some ⟨bI, oI, none⟩) ids.length cI), (⟨q, 1, none⟩, .slice (some ⟨bL, oL, none⟩) ids.length cL), (⟨bI, oI + pre.length * 2, none⟩, .int .i64 z1), (⟨bI, oI + pre.length * 2 + 1, none⟩, .int .i64 z2), (⟨bL, oL + pre.length, none⟩, .bool b), (⟨Bx, 0, none⟩, .int .i64 i1), (⟨Bx, 1, none⟩, .int .i64 i2)] := ⟨c2, c3, c0, c1, g1, g2, g3, e0, e1, trivial⟩
      have hk1000 : (pre.length : Int) ≤ 1000 := by omega
      cases hq : ideq z1 z2 i1 i2
      · have Hq := Lib.hid (ideq_false.1 hq)
        gi_wp2
        refine region_free_round _ [0, 1, 2, 3, 4, 5, 6, 7, 8, 9, 10, 11, 12, 13, 14, 15, 16, 17, 18, 19, 20, 21, 22, 23, 24, 25, 26, 27, 28] 0 (by rintro ⟨_, _, h⟩; exact h) (by kernel_rfl) (by kernel_rfl) (by kernel_rfl) (by kernel_rfl) (by kernel_rfl) (by kernel_rfl) (fun _ _ _ _ _ h => h) HC ?_
        intro hne hu
        simp only [AllCells] at hu
        simp only [pick, List.take_succ_cons, List.take_zero, List.drop_succ_cons, List.drop_zero, List.cons_append, List.nil_append]
        repeat (go_big_quiet_step (fail))
        refine wpQuiet_nil ?_
        clear hne hu
        refine ⟨by kernel_rfl, ?_⟩
        gi_wp2
        refine ⟨((KeepsOthers.setCell _ _ _).trans (KeepsOthers.drew _)).from _, fun hp => ?_⟩
        have := Hn.out.1 hp
        simp only [Prod.mk.injEq] at this
        exact Hq.out ⟨this.1.1.symm, this.1.2.symm⟩
      · obtain ⟨rfl, rfl⟩ := ideq_true.1 hq
        cases hbb : (b != xb)
        · have hbx : xb = b := by have := hbb; simp at this; exact this.symm
          subst hbx
          have Hp := Lib.hid (Hn.out.2 rfl)
          gi_wp2
          refine region_free_round _ [0, 1, 2, 3, 4, 5, 6, 7, 8, 9, 10, 11, 12, 13, 14, 15, 16, 17, 18, 19, 20, 21, 22, 23, 24, 25, 26, 27, 28] 0 (by rintro ⟨_, _, h⟩; exact h) (by kernel_rfl) (by kernel_rfl) (by kernel_rfl) (by kernel_rfl) (by kernel_rfl) (by kernel_rfl) (fun _ _ _ _ _ h => h) HC ?_
          intro hne hu
          simp only [AllCells] at hu
          simp only [pick, List.take_succ_cons, List.take_zero, List.drop_succ_cons, List.drop_zero, List.cons_append, List.nil_append]
          repeat (go_big_quiet_step (fail))
          refine wpQuiet_nil ?_
          clear hne hu
          refine ⟨by kernel_rfl, ?_⟩
          gi_wp2
          refine ⟨((KeepsOthers.setCell _ _ _).trans (KeepsOthers.drew _)).from _, fun j cs e m hj hf => ⟨Below.heap_setCell W _ _ j (by simp; exact hf.2), hf⟩, (HI.out.step Hp.out).drew⟩
        · have hbb' : b = !xb := by cases b <;> cases xb <;> simp at hbb <;> rfl
          have Hbb := Lib.hid hbb
          clear hbb
          subst hbb'
          have hbt : ((!xb) != xb) = true := by cases xb <;> rfl
          have hbt2 : ((!xb) == xb) = false := by cases xb <;> rfl
          gi_wp2
          refine region_free_round _ [0, 1, 2, 3, 4, 5, 6, 7, 8, 9, 10, 11, 12, 13, 14, 15, 16, 17, 18, 19, 20, 21, 22, 23, 24, 25, 26, 27, 28] 0 (by rintro ⟨_, _, h⟩; exact h) (by kernel_rfl) (by kernel_rfl) (by kernel_rfl) (by kernel_rfl) (by kernel_rfl) (by kernel_rfl) (fun _ _ _ _ _ h => h) HC ?_
          intro hne hu
          simp only [AllCells] at hu
          simp only [pick, List.take_succ_cons, List.take_zero, List.drop_succ_cons, List.drop_zero, List.cons_append, List.nil_append]
          repeat (go_big_quiet_step (fail))
          refine wpQuiet_nil ?_
          clear hne hu
          refine ⟨by kernel_rfl, ?_⟩
          gi_wp2
          refine ⟨((KeepsOthers.setCell _ _ _).trans (KeepsOthers.drew _)).from _, fun hp => ?_⟩
          have := Hn.out.1 hp
          simp only [Prod.mk.injEq] at this
          have hbb := this.2
          cases xb <;> cases hbb
    · exact absurd hlt hk
  case done =>
    rintro D ys W hD rfl hI hK
    have c2 : W.cell? ⟨w.heap.size + 1 + 1, 0, none⟩ = some (.int .i64 ((ids.zip live).length : Int)) := hI.bk.cell 0
    have c3 : W.cell? ⟨w.heap.size, 0, none⟩ = some (.pointer (some ⟨q, 0, none⟩)) := hI.bx.cell 0
    have c4 : W.cell? ⟨w.heap.size + 1, 0, none⟩ = some (.bool false) := hI.br.cell 0
    have f4 := hI.br.frozen 0
    have hx := HX.out.next hI.below
    obtain ⟨AI, cI, c0⟩ := hx.head
    have hzl : (ids.zip live).length = ids.length := by rw [List.length_zip, hx.len]; omega
    rw [hzl] at c2
    have hll : ((ids.length : Int) == (ids.length : Int)) = true := by simp
    have HI := Lib.hid hI
    have HK := Lib.hid hK
    clear hI hK hx hzl
    dsimp only
    go_wp2_with fail
    refine region_tail 7 (by kernel_rfl) (by kernel_rfl) ?_
    simp only [List.take_succ_cons, List.take_zero, List.drop_succ_cons, List.drop_zero]
    repeat (go_big_quiet_step (fail))
    refine wpQuiet_nil ?_
    go_wp2_with fail
    have hK' : (W.setCell ⟨w.heap.size + 1, 0, none⟩ (.bool true)).drew.heap[D]? = some (.deferred (some [])) := (KeepsOthers.setCell W ⟨w.heap.size + 1, 0, none⟩ (.bool true)).same D _ HK.out rfl
    refine ⟨by simp, .inl ⟨_, _, rfl, run_takeDeferred hK', ?_⟩⟩
    have hc5 := cell_kept (show (W.setCell ⟨w.heap.size + 1, 0, none⟩ (.bool true)).drew.cell? ⟨w.heap.size + 1, 0, none⟩ = some (.bool true) from World.cell?_setCell_same' W ⟨w.heap.size + 1, 0, none⟩ (.bool true) (by rw [c4]; rfl)) (grownBy_putObj' _ D (.deferred none)) (fun r e => by cases e; exact ⟨_, hK', rfl⟩)
    refine ⟨.bool true, ?_, rfl, ((HI.out.below.setCell (p := ⟨w.heap.size + 1, 0, none⟩) (by simp) _).drew).trans (belowK_b (w := w) (Nat.le_refl _) _ D _ _ (by omega) hK' rfl rfl)⟩
    simp [results, Try.f41, go_sem, hc5]
  case stop =>
    rintro D c pre W _ h1 h2 _
    exact absurd h1 h2
end Go.Proofs.Ytgmlhpkhecbkoaa
