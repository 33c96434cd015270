/-
  Boxes one behind the other, laid at a call's start; oper.told: its contract. No condition.
  oper.numbers: its contract. Condition: what value.ToNum tells of the two is said.
  oper.told, reckoned, reckoner's function: their contracts. Condition: the table of powers of ten reads as the program lays it; what value.ToNum tells of the two, and what the function tells of two numbers, is said.
  oper.reckoner's function over num.Add, Sub, Mul: its contracts. Condition: as for oper.reckoned; the function lies in its box.
  value.ToNum of what is no text: its contract. No condition beyond the kind.
-/
import Derived.Test.YtdmbppgogdkpdaaGreatDoorS5
import Derived.Test.YtdmbppgogdkpdaaGreatDoorX12
set_option linter.unusedSectionVars false
namespace Go.Proofs.YtdmbppgogdkpdaaGreatDoor
open Go.RowKit
/-- Boxes one behind the other, from the old world's end on. -/
structure Bxs (w V : World) (L : List (TypeId × Array Value)) : Prop where
  box : ∀ i t cs, L[i]? = some (t, cs) → Blk V (w.heap.size + i) t cs
  below : Below w.heap.size w V
def allocAll (w : World) : List (TypeId × Array Value) → World
  | [] => w
  | (t, cs) :: L => allocAll (w.alloc (.cells cs t)) L
theorem allocAll_bxs : ∀ (L : List (TypeId × Array Value)) (w V : World) (K : List (TypeId × Array Value)), Bxs w V K → V.heap.size = w.heap.size + K.length → Bxs w (allocAll V L) (K ++ L)
  | [], w, V, K, h, _ => by simpa [allocAll] using h
  | (t, cs) :: L, w, V, K, h, e => by
    have h2 : Bxs w (V.alloc (.cells cs t)) (K ++ [(t, cs)]) := by
      refine ⟨fun i t' cs' hi => ?_, h.below.alloc (by omega) _⟩
      rcases Nat.lt_or_ge i K.length with hlt | hge
      · rw [List.getElem?_append_left hlt] at hi
        exact (h.box i t' cs' hi).alloc _
      · rw [List.getElem?_append_right hge] at hi
        have : i - K.length = 0 := by
          rcases Nat.eq_zero_or_pos (i - K.length) with h0 | h0
          · exact h0
          · rw [List.getElem?_eq_none (by simp; omega)] at hi; cases hi
        rw [this] at hi
        cases hi
        have e2 : w.heap.size + i = V.heap.size := by omega
        rw [e2]
        exact Blk.new V _ _
    have := allocAll_bxs L w _ _ h2 (by simp; omega)
    rw [List.append_assoc] at this
    exact this
theorem Bxs.start (w : World) (L : List (TypeId × Array Value)) : Bxs w (allocAll w L) L := allocAll_bxs L w w [] ⟨fun i t cs h => by simp at h, Below.refl _ _⟩ rfl
theorem Bxs.next {w V V' : World} {L : List (TypeId × Array Value)} (h : Bxs w V L) (k : Below V.heap.size V V') : Bxs w V' L :=
  ⟨fun i t cs hi => (h.box i t cs hi).kept (k.block _ (h.box i t cs hi).lt), h.below.trans (k.mono h.below.size)⟩
theorem Bxs.drew {w V : World} {L : List (TypeId × Array Value)} (h : Bxs w V L) : Bxs w V.drew L := h.next (Below.refl _ _).drew
theorem Bxs.set {w V : World} {L : List (TypeId × Array Value)} (h : Bxs w V L) (i j : Nat) (u : Value) {t : TypeId} {cs : Array Value} (hi : L[i]? = some (t, cs)) : Bxs w (V.setCell ⟨w.heap.size + i, j, none⟩ u) (L.set i (t, cs.setIfInBounds j u)) := by
  refine ⟨fun i' t' cs' hi' => ?_, h.below.setCell (by simp) u⟩
  rw [List.getElem?_set] at hi'
  split at hi'
  · rename_i e
    subst e
    split at hi'
    · cases hi'
      exact (h.box i t cs hi).store j u
    · cases hi'
  · rename_i e
    exact (h.box i' t' cs' hi').far (by simp; omega) u
theorem Bxs.put2 {w V : World} {L : List (TypeId × Array Value)} (h : Bxs w V L) (i : Nat) {t : TypeId} {x y : Value} (hi : L[i]? = some (t, #[x, y])) (a b : Value) : Bxs w (put2 V (w.heap.size + i) a b) (L.set i (t, #[a, b])) := by
  have h1 := h.set i 0 a hi
  have h2 := h1.set i 1 b (t := t) (cs := #[a, y]) (by rw [List.getElem?_set_self (List.getElem?_eq_some_iff.1 hi).1]; rfl)
  rw [List.set_set] at h2
  exact h2
end Go.Proofs.YtdmbppgogdkpdaaGreatDoor
namespace Go.Proofs.YtdmbppgogdkpdaaGreatDoor
open Go.RowKit
def NumIs (x : Val) (p : Int × Int) (f : Int) : Prop := ∀ W, Calls Tryz.prog 228 #[.agg x.cs.toArray] W fun e w' => e = .returned (.tuple #[.agg #[.int .i64 p.1, .int .i64 p.2], .int .i64 f]) ∧ Below W.heap.size W w'
def numsR (p q : Int × Int) (f1 f2 : Int) : Value := if f1 ≠ 0 then .tuple #[.agg #[.int .i64 0, .int .i64 0], .agg #[.int .i64 0, .int .i64 0], .int .i64 f1] else if f2 ≠ 0 then .tuple #[.agg #[.int .i64 0, .int .i64 0], .agg #[.int .i64 0, .int .i64 0], .int .i64 f2] else .tuple #[.agg #[.int .i64 p.1, .int .i64 p.2], .agg #[.int .i64 q.1, .int .i64 q.2], .int .i64 0]
set_option maxRecDepth 100000 in
set_option maxHeartbeats 1000000 in
theorem onumbers_c (x y : Val) (p q : Int × Int) (f1 f2 : Int) (hx : NumIs x p f1) (hy : NumIs y q f2) (w : World) :
    Calls Tryz.prog 114 #[.agg x.cs.toArray, .agg y.cs.toArray] w fun e w' => e = .returned (numsR p q f1 f2) ∧ Below w.heap.size w w' := by
  obtain ⟨x0, x1, x2, x3, x4, x5⟩ := x
  obtain ⟨y0, y1, y2, y3, y4, y5⟩ := y
  obtain ⟨p1, p2⟩ := p
  obtain ⟨q1, q2⟩ := q
  simp only [Val.cs] at hx hy ⊢
  have HX := Lib.hid hx
  have HY := Lib.hid hy
  have B0 := Lib.hid (Bxs.start w [(41, #[.int .i64 x0, .int .i64 x1, .int .i64 x2, .string x3, .bool x4, .int .i64 x5]), (41, #[.int .i64 y0, .int .i64 y1, .int .i64 y2, .string y3, .bool y4, .int .i64 y5]), (39, #[.int .i64 0, .int .i64 0]), (39, #[.int .i64 0, .int .i64 0])])
  simp only [allocAll] at B0
  clear hx hy
  by_cases h1 : f1 = 0
  · subst h1
    go_enter Tryz.func114, Tryz.ntmps114
    go_wp2_with fail
    refine (HX.out _).mono ?_
    rintro z w1 ⟨rfl, hb⟩
    have B1 := Lib.hid (B0.out.next hb)
    clear hb B0
    have k0 := (show Blk _ (w.heap.size + 1 + 1) _ _ from B1.out.box 2 _ _ rfl).cell 0
    have k1 := (show Blk _ (w.heap.size + 1 + 1) _ _ from B1.out.box 2 _ _ rfl).cell 1
    have g0 := (show Blk _ (w.heap.size + 1 + 1) _ _ from B1.out.box 2 _ _ rfl).frozen 0
    have g1 := (show Blk _ (w.heap.size + 1 + 1) _ _ from B1.out.box 2 _ _ rfl).frozen 1
    simp only [List.getElem?_toArray, List.getElem?_cons_zero, List.getElem?_cons_succ] at k0 k1
    have k2 := (show Blk _ (w.heap.size + 1 + 1 + 1) _ _ from B1.out.box 3 _ _ rfl).cell 0
    have k3 := (show Blk _ (w.heap.size + 1 + 1 + 1) _ _ from B1.out.box 3 _ _ rfl).cell 1
    have g2 := (show Blk _ (w.heap.size + 1 + 1 + 1) _ _ from B1.out.box 3 _ _ rfl).frozen 0
    have g3 := (show Blk _ (w.heap.size + 1 + 1 + 1) _ _ from B1.out.box 3 _ _ rfl).frozen 1
    simp only [List.getElem?_toArray, List.getElem?_cons_zero, List.getElem?_cons_succ] at k2 k3
    have y0 := (show Blk _ (w.heap.size + 1) _ _ from B1.out.box 1 _ _ rfl).cell 0
    have y1 := (show Blk _ (w.heap.size + 1) _ _ from B1.out.box 1 _ _ rfl).cell 1
    have y2 := (show Blk _ (w.heap.size + 1) _ _ from B1.out.box 1 _ _ rfl).cell 2
    have y3 := (show Blk _ (w.heap.size + 1) _ _ from B1.out.box 1 _ _ rfl).cell 3
    have y4 := (show Blk _ (w.heap.size + 1) _ _ from B1.out.box 1 _ _ rfl).cell 4
    have y5 := (show Blk _ (w.heap.size + 1) _ _ from B1.out.box 1 _ _ rfl).cell 5
    simp only [List.getElem?_toArray, List.getElem?_cons_zero, List.getElem?_cons_succ] at y0 y1 y2 y3 y4 y5
    have B2 := Lib.hid (show Bxs w (put2 w1 (w.heap.size + 1 + 1) (.int .i64 p1) (.int .i64 p2)) _ from B1.out.put2 2 rfl (.int .i64 p1) (.int .i64 p2))
    go_wp2_with fail
    change Calls _ _ _ (put2 w1 (w.heap.size + 1 + 1) (.int .i64 p1) (.int .i64 p2)) _
    clear k0 k1 g0 g1 k2 k3 g2 g3 y0 y1 y2 y3 y4 y5
    generalize put2 w1 (w.heap.size + 1 + 1) (.int .i64 p1) (.int .i64 p2) = V2 at *
    clear B1 HX
    refine (HY.out _).mono ?_
    rintro z w2 ⟨rfl, hb⟩
    have B1 := Lib.hid (B2.out.next hb)
    clear hb B2
    have k0 := (show Blk _ (w.heap.size + 1 + 1) _ _ from B1.out.box 2 _ _ rfl).cell 0
    have k1 := (show Blk _ (w.heap.size + 1 + 1) _ _ from B1.out.box 2 _ _ rfl).cell 1
    have g0 := (show Blk _ (w.heap.size + 1 + 1) _ _ from B1.out.box 2 _ _ rfl).frozen 0
    have g1 := (show Blk _ (w.heap.size + 1 + 1) _ _ from B1.out.box 2 _ _ rfl).frozen 1
    simp only [List.getElem?_toArray, List.getElem?_cons_zero, List.getElem?_cons_succ] at k0 k1
    have k2 := (show Blk _ (w.heap.size + 1 + 1 + 1) _ _ from B1.out.box 3 _ _ rfl).cell 0
    have k3 := (show Blk _ (w.heap.size + 1 + 1 + 1) _ _ from B1.out.box 3 _ _ rfl).cell 1
    have g2 := (show Blk _ (w.heap.size + 1 + 1 + 1) _ _ from B1.out.box 3 _ _ rfl).frozen 0
    have g3 := (show Blk _ (w.heap.size + 1 + 1 + 1) _ _ from B1.out.box 3 _ _ rfl).frozen 1
    simp only [List.getElem?_toArray, List.getElem?_cons_zero, List.getElem?_cons_succ] at k2 k3
    by_cases h2 : f2 = 0
    · subst h2
      go_wp2_with fail
      have B3 := Lib.hid (show Bxs w (put2 w2 (w.heap.size + 1 + 1 + 1) (.int .i64 q1) (.int .i64 q2)) _ from B1.out.put2 3 rfl (.int .i64 q1) (.int .i64 q2))
      change Code.wp _ _ _ _ (put2 w2 (w.heap.size + 1 + 1 + 1) (.int .i64 q1) (.int .i64 q2))
      clear k0 k1 g0 g1 k2 k3 g2 g3 B1
      generalize put2 w2 (w.heap.size + 1 + 1 + 1) (.int .i64 q1) (.int .i64 q2) = V3 at *
      have HCC : Hid (∀ V, Bxs w V [(41, #[.int .i64 x0, .int .i64 x1, .int .i64 x2, .string x3, .bool x4, .int .i64 x5]), (41, #[.int .i64 y0, .int .i64 y1, .int .i64 y2, .string y3, .bool y4, .int .i64 y5]), (39, #[.int .i64 p1, .int .i64 p2]), (39, #[.int .i64 q1, .int .i64 q2])] → AllCells V [(⟨w.heap.size + 1 + 1, 0, none⟩, .int .i64 p1), (⟨w.heap.size + 1 + 1, 1, none⟩, .int .i64 p2), (⟨w.heap.size + 1 + 1 + 1, 0, none⟩, .int .i64 q1), (⟨w.heap.size + 1 + 1 + 1, 1, none⟩, .int .i64 q2)]) :=
        Lib.hid (fun V h => ⟨(h.box 2 _ _ rfl).cell 0, (h.box 2 _ _ rfl).cell 1, (h.box 3 _ _ rfl).cell 0, (h.box 3 _ _ rfl).cell 1, trivial⟩)
      have B4 := Lib.hid B3.out.drew
      have HC := HCC.out _ B4.out
      refine region_free _ [0, 1] 3 (by kernel_rfl) (by kernel_rfl) (by kernel_rfl) (by kernel_rfl) (by kernel_rfl) (fun _ _ _ _ _ h => h) HC ?_
      intro hne hu
      simp only [AllCells] at hu
      simp only [pick, List.take_succ_cons, List.take_zero, List.drop_succ_cons, List.drop_zero, List.cons_append, List.nil_append]
      repeat (go_big_quiet_step (fail))
      refine wpQuiet_nil ?_
      clear hne hu
      clear HC B3
      generalize V3.drew = V4 at *
      refine anyN_oneL 2 (by kernel_rfl) ?_
      simp only [List.take_succ_cons, List.take_zero, List.drop_succ_cons, List.drop_zero]
      have k0 := (show Blk _ (w.heap.size + 1 + 1) _ _ from B4.out.box 2 _ _ rfl).cell 0
      have k1 := (show Blk _ (w.heap.size + 1 + 1) _ _ from B4.out.box 2 _ _ rfl).cell 1
      have g0 := (show Blk _ (w.heap.size + 1 + 1) _ _ from B4.out.box 2 _ _ rfl).frozen 0
      have g1 := (show Blk _ (w.heap.size + 1 + 1) _ _ from B4.out.box 2 _ _ rfl).frozen 1
      simp only [List.getElem?_toArray, List.getElem?_cons_zero, List.getElem?_cons_succ] at k0 k1
      go_wp2_with fail
      have B5 := Lib.hid (show Bxs w (put2 V4 (w.heap.size + 1 + 1) (.int .i64 p1) (.int .i64 p2)) _ from B4.out.put2 2 rfl (.int .i64 p1) (.int .i64 p2))
      change (_ → AllCells (put2 V4 (w.heap.size + 1 + 1) (.int .i64 p1) (.int .i64 p2)) _) ∧ wpAnyN _ _ _ _ _ _ _ _ _ (put2 V4 (w.heap.size + 1 + 1) (.int .i64 p1) (.int .i64 p2))
      clear k0 k1 g0 g1 B4
      generalize put2 V4 (w.heap.size + 1 + 1) (.int .i64 p1) (.int .i64 p2) = V5 at *
      refine And.intro (fun _ => HCC.out _ B5.out) ?_
      refine anyN_oneL 3 (by kernel_rfl) ?_
      simp only [List.take_succ_cons, List.take_zero, List.drop_succ_cons, List.drop_zero]
      have k0 := (show Blk _ (w.heap.size + 1 + 1 + 1) _ _ from B5.out.box 3 _ _ rfl).cell 0
      have k1 := (show Blk _ (w.heap.size + 1 + 1 + 1) _ _ from B5.out.box 3 _ _ rfl).cell 1
      have g0 := (show Blk _ (w.heap.size + 1 + 1 + 1) _ _ from B5.out.box 3 _ _ rfl).frozen 0
      have g1 := (show Blk _ (w.heap.size + 1 + 1 + 1) _ _ from B5.out.box 3 _ _ rfl).frozen 1
      simp only [List.getElem?_toArray, List.getElem?_cons_zero, List.getElem?_cons_succ] at k0 k1
      go_wp2_with fail
      have B6 := Lib.hid (show Bxs w (put2 V5 (w.heap.size + 1 + 1 + 1) (.int .i64 q1) (.int .i64 q2)) _ from B5.out.put2 3 rfl (.int .i64 q1) (.int .i64 q2))
      change (_ → AllCells (put2 V5 (w.heap.size + 1 + 1 + 1) (.int .i64 q1) (.int .i64 q2)) _) ∧ wpAnyN _ _ _ _ _ _ _ _ _ (put2 V5 (w.heap.size + 1 + 1 + 1) (.int .i64 q1) (.int .i64 q2))
      clear k0 k1 g0 g1 B5
      generalize put2 V5 (w.heap.size + 1 + 1 + 1) (.int .i64 q1) (.int .i64 q2) = V6 at *
      refine And.intro (fun _ => HCC.out _ B6.out) ?_
      refine anyN_oneL 4 (by kernel_rfl) ?_
      simp only [List.take_succ_cons, List.take_zero, List.drop_succ_cons, List.drop_zero]
      go_wp2_with fail
      refine And.intro (fun _ => HCC.out _ B6.out) ?_
      refine ⟨by kernel_rfl, ?_⟩
      go_wp2_with fail
      have k0 := (show Blk _ (w.heap.size + 1 + 1) _ _ from B6.out.box 2 _ _ rfl).cell 0
      have k1 := (show Blk _ (w.heap.size + 1 + 1) _ _ from B6.out.box 2 _ _ rfl).cell 1
      have g0 := (show Blk _ (w.heap.size + 1 + 1) _ _ from B6.out.box 2 _ _ rfl).frozen 0
      have g1 := (show Blk _ (w.heap.size + 1 + 1) _ _ from B6.out.box 2 _ _ rfl).frozen 1
      simp only [List.getElem?_toArray, List.getElem?_cons_zero, List.getElem?_cons_succ] at k0 k1
      have k2 := (show Blk _ (w.heap.size + 1 + 1 + 1) _ _ from B6.out.box 3 _ _ rfl).cell 0
      have k3 := (show Blk _ (w.heap.size + 1 + 1 + 1) _ _ from B6.out.box 3 _ _ rfl).cell 1
      have g2 := (show Blk _ (w.heap.size + 1 + 1 + 1) _ _ from B6.out.box 3 _ _ rfl).frozen 0
      have g3 := (show Blk _ (w.heap.size + 1 + 1 + 1) _ _ from B6.out.box 3 _ _ rfl).frozen 1
      simp only [List.getElem?_toArray, List.getElem?_cons_zero, List.getElem?_cons_succ] at k2 k3
      exact bodyPost_ret (v := .tuple #[.agg #[.int .i64 p1, .int .i64 p2], .agg #[.int .i64 q1, .int .i64 q2], .int .i64 0]) (by simp [results, Tryz.f114, go_sem, k0, k1, k2, k3]) rfl ⟨rfl, B6.out.below⟩
    · have hd : decide (f2 = 0) = false := decide_eq_false h2
      have HF1 := Lib.hid h2
      go_wp2_with fail
      have B2 := trivial
      have y0 := trivial
      have y1 := trivial
      have y2 := trivial
      have y3 := trivial
      have y4 := trivial
      have y5 := trivial
      change bodyPost _ _ _ _ _ (put2 (put2 (put2 w2 (w.heap.size + 1 + 1 + 1) (.int .i64 q1) (.int .i64 q2)) (w.heap.size + 1 + 1) (.int .i64 0) (.int .i64 0)) (w.heap.size + 1 + 1 + 1) (.int .i64 0) (.int .i64 0))
      have B9 := Lib.hid (show Bxs w (put2 (put2 (put2 w2 (w.heap.size + 1 + 1 + 1) (.int .i64 q1) (.int .i64 q2)) (w.heap.size + 1 + 1) (.int .i64 0) (.int .i64 0)) (w.heap.size + 1 + 1 + 1) (.int .i64 0) (.int .i64 0)) _ from ((B1.out.put2 3 rfl (.int .i64 q1) (.int .i64 q2)).put2 2 rfl (.int .i64 0) (.int .i64 0)).put2 3 rfl (.int .i64 0) (.int .i64 0))
      clear k0 k1 g0 g1 k2 k3 g2 g3 y0 y1 y2 y3 y4 y5 B2
      generalize (put2 (put2 (put2 w2 (w.heap.size + 1 + 1 + 1) (.int .i64 q1) (.int .i64 q2)) (w.heap.size + 1 + 1) (.int .i64 0) (.int .i64 0)) (w.heap.size + 1 + 1 + 1) (.int .i64 0) (.int .i64 0)) = W9 at *
      have k0 := (show Blk _ (w.heap.size + 1 + 1) _ _ from B9.out.box 2 _ _ rfl).cell 0
      have k1 := (show Blk _ (w.heap.size + 1 + 1) _ _ from B9.out.box 2 _ _ rfl).cell 1
      have g0 := (show Blk _ (w.heap.size + 1 + 1) _ _ from B9.out.box 2 _ _ rfl).frozen 0
      have g1 := (show Blk _ (w.heap.size + 1 + 1) _ _ from B9.out.box 2 _ _ rfl).frozen 1
      simp only [List.getElem?_toArray, List.getElem?_cons_zero, List.getElem?_cons_succ] at k0 k1
      have k2 := (show Blk _ (w.heap.size + 1 + 1 + 1) _ _ from B9.out.box 3 _ _ rfl).cell 0
      have k3 := (show Blk _ (w.heap.size + 1 + 1 + 1) _ _ from B9.out.box 3 _ _ rfl).cell 1
      have g2 := (show Blk _ (w.heap.size + 1 + 1 + 1) _ _ from B9.out.box 3 _ _ rfl).frozen 0
      have g3 := (show Blk _ (w.heap.size + 1 + 1 + 1) _ _ from B9.out.box 3 _ _ rfl).frozen 1
      simp only [List.getElem?_toArray, List.getElem?_cons_zero, List.getElem?_cons_succ] at k2 k3
      exact bodyPost_ret (v := .tuple #[.agg #[.int .i64 0, .int .i64 0], .agg #[.int .i64 0, .int .i64 0], .int .i64 f2]) (by simp [results, Tryz.f114, go_sem, k0, k1, k2, k3]) rfl ⟨by first | rfl | simp [numsR, HF1.out], B9.out.below⟩
  · have hd : decide (f1 = 0) = false := decide_eq_false h1
    have HF1 := Lib.hid h1
    go_enter Tryz.func114, Tryz.ntmps114
    go_wp2_with fail
    refine (HX.out _).mono ?_
    rintro z w1 ⟨rfl, hb⟩
    have B1 := Lib.hid (B0.out.next hb)
    clear hb B0
    have k0 := (show Blk _ (w.heap.size + 1 + 1) _ _ from B1.out.box 2 _ _ rfl).cell 0
    have k1 := (show Blk _ (w.heap.size + 1 + 1) _ _ from B1.out.box 2 _ _ rfl).cell 1
    have g0 := (show Blk _ (w.heap.size + 1 + 1) _ _ from B1.out.box 2 _ _ rfl).frozen 0
    have g1 := (show Blk _ (w.heap.size + 1 + 1) _ _ from B1.out.box 2 _ _ rfl).frozen 1
    simp only [List.getElem?_toArray, List.getElem?_cons_zero, List.getElem?_cons_succ] at k0 k1
    have k2 := (show Blk _ (w.heap.size + 1 + 1 + 1) _ _ from B1.out.box 3 _ _ rfl).cell 0
    have k3 := (show Blk _ (w.heap.size + 1 + 1 + 1) _ _ from B1.out.box 3 _ _ rfl).cell 1
    have g2 := (show Blk _ (w.heap.size + 1 + 1 + 1) _ _ from B1.out.box 3 _ _ rfl).frozen 0
    have g3 := (show Blk _ (w.heap.size + 1 + 1 + 1) _ _ from B1.out.box 3 _ _ rfl).frozen 1
    simp only [List.getElem?_toArray, List.getElem?_cons_zero, List.getElem?_cons_succ] at k2 k3
    have y0 := (show Blk _ (w.heap.size + 1) _ _ from B1.out.box 1 _ _ rfl).cell 0
    have y1 := (show Blk _ (w.heap.size + 1) _ _ from B1.out.box 1 _ _ rfl).cell 1
    have y2 := (show Blk _ (w.heap.size + 1) _ _ from B1.out.box 1 _ _ rfl).cell 2
    have y3 := (show Blk _ (w.heap.size + 1) _ _ from B1.out.box 1 _ _ rfl).cell 3
    have y4 := (show Blk _ (w.heap.size + 1) _ _ from B1.out.box 1 _ _ rfl).cell 4
    have y5 := (show Blk _ (w.heap.size + 1) _ _ from B1.out.box 1 _ _ rfl).cell 5
    simp only [List.getElem?_toArray, List.getElem?_cons_zero, List.getElem?_cons_succ] at y0 y1 y2 y3 y4 y5
    have B2 := Lib.hid (show Bxs w (put2 w1 (w.heap.size + 1 + 1) (.int .i64 p1) (.int .i64 p2)) _ from B1.out.put2 2 rfl (.int .i64 p1) (.int .i64 p2))
    go_wp2_with fail
    change bodyPost _ _ _ _ _ (put2 (put2 (put2 w1 (w.heap.size + 1 + 1) (.int .i64 p1) (.int .i64 p2)) (w.heap.size + 1 + 1) (.int .i64 0) (.int .i64 0)) (w.heap.size + 1 + 1 + 1) (.int .i64 0) (.int .i64 0))
    have B9 := Lib.hid (show Bxs w (put2 (put2 (put2 w1 (w.heap.size + 1 + 1) (.int .i64 p1) (.int .i64 p2)) (w.heap.size + 1 + 1) (.int .i64 0) (.int .i64 0)) (w.heap.size + 1 + 1 + 1) (.int .i64 0) (.int .i64 0)) _ from ((B1.out.put2 2 rfl (.int .i64 p1) (.int .i64 p2)).put2 2 rfl (.int .i64 0) (.int .i64 0)).put2 3 rfl (.int .i64 0) (.int .i64 0))
    clear k0 k1 g0 g1 k2 k3 g2 g3 y0 y1 y2 y3 y4 y5 B2
    generalize (put2 (put2 (put2 w1 (w.heap.size + 1 + 1) (.int .i64 p1) (.int .i64 p2)) (w.heap.size + 1 + 1) (.int .i64 0) (.int .i64 0)) (w.heap.size + 1 + 1 + 1) (.int .i64 0) (.int .i64 0)) = W9 at *
    have k0 := (show Blk _ (w.heap.size + 1 + 1) _ _ from B9.out.box 2 _ _ rfl).cell 0
    have k1 := (show Blk _ (w.heap.size + 1 + 1) _ _ from B9.out.box 2 _ _ rfl).cell 1
    have g0 := (show Blk _ (w.heap.size + 1 + 1) _ _ from B9.out.box 2 _ _ rfl).frozen 0
    have g1 := (show Blk _ (w.heap.size + 1 + 1) _ _ from B9.out.box 2 _ _ rfl).frozen 1
    simp only [List.getElem?_toArray, List.getElem?_cons_zero, List.getElem?_cons_succ] at k0 k1
    have k2 := (show Blk _ (w.heap.size + 1 + 1 + 1) _ _ from B9.out.box 3 _ _ rfl).cell 0
    have k3 := (show Blk _ (w.heap.size + 1 + 1 + 1) _ _ from B9.out.box 3 _ _ rfl).cell 1
    have g2 := (show Blk _ (w.heap.size + 1 + 1 + 1) _ _ from B9.out.box 3 _ _ rfl).frozen 0
    have g3 := (show Blk _ (w.heap.size + 1 + 1 + 1) _ _ from B9.out.box 3 _ _ rfl).frozen 1
    simp only [List.getElem?_toArray, List.getElem?_cons_zero, List.getElem?_cons_succ] at k2 k3
    exact bodyPost_ret (v := .tuple #[.agg #[.int .i64 0, .int .i64 0], .agg #[.int .i64 0, .int .i64 0], .int .i64 f1]) (by simp [results, Tryz.f114, go_sem, k0, k1, k2, k3]) rfl ⟨by first | rfl | simp [numsR, HF1.out], B9.out.below⟩
end Go.Proofs.YtdmbppgogdkpdaaGreatDoor
namespace Go.Proofs.YtdmbppgogdkpdaaGreatDoor
open Go.RowKit
set_option maxRecDepth 100000 in
set_option maxHeartbeats 4000000 in
theorem otold_c (m e : Int) (ok : Bool) (w : World) : Calls Tryz.prog 115 #[.agg #[.int .i64 m, .int .i64 e], .bool ok] w fun x w' => x = .returned (.agg (toldV (m, e) ok).cs.toArray) ∧ Below w.heap.size w w' := by
  have HB := Lib.hid (((Below.refl _ w).alloc (Nat.le_refl _) (.cells #[.int .i64 m, .int .i64 e] 39)).alloc (by simp) (.cells #[.int .i64 0, .int .i64 0, .int .i64 0, .string ⟨#[]⟩, .bool false, .int .i64 0] 41))
  have BN := Lib.hid ((Blk.new w 39 #[.int .i64 m, .int .i64 e]).alloc (.cells #[.int .i64 0, .int .i64 0, .int .i64 0, .string ⟨#[]⟩, .bool false, .int .i64 0] 41))
  have BX := Lib.hid (show Blk ((w.alloc (.cells #[.int .i64 m, .int .i64 e] 39)).alloc (.cells #[.int .i64 0, .int .i64 0, .int .i64 0, .string ⟨#[]⟩, .bool false, .int .i64 0] 41)) (w.heap.size + 1) 41 #[.int .i64 0, .int .i64 0, .int .i64 0, .string ⟨#[]⟩, .bool false, .int .i64 0] by
    have := Blk.new (w.alloc (.cells #[.int .i64 m, .int .i64 e] 39)) 41 #[.int .i64 0, .int .i64 0, .int .i64 0, .string ⟨#[]⟩, .bool false, .int .i64 0]
    rwa [show (w.alloc (.cells #[.int .i64 m, .int .i64 e] 39)).heap.size = w.heap.size + 1 by simp] at this)
  have OF := Lib.hid (fun W => vof_c m e W)
  have BD := Lib.hid (fun W => vbadn_c 5 (by omega) W)
  cases ok
  · have e : toldV (m, e) false = ⟨4, 0, 0, ⟨#[]⟩, false, 5⟩ := badV_in (by omega)
    rw [e]
    clear e
    go_enter Tryz.func115, Tryz.ntmps115
    go_wp2_with fail
    generalize ((w.alloc (.cells #[.int .i64 m, .int .i64 e] 39)).alloc (.cells #[.int .i64 0, .int .i64 0, .int .i64 0, .string ⟨#[]⟩, .bool false, .int .i64 0] 41)) = V at *
    refine (BD.out _).mono ?_
    rintro x w1 ⟨rfl, B1⟩
    have BX1 := Lib.hid (BX.out.kept (B1.block _ BX.out.lt))
    have HB1 := Lib.hid (HB.out.trans (B1.mono HB.out.size))
    clear B1 BX HB BN
    have c0 := BX1.out.cell 0
    have c1 := BX1.out.cell 1
    have c2 := BX1.out.cell 2
    have c3 := BX1.out.cell 3
    have c4 := BX1.out.cell 4
    have c5 := BX1.out.cell 5
    simp only [List.getElem?_toArray, List.getElem?_cons_zero, List.getElem?_cons_succ] at c0 c1 c2 c3 c4 c5
    have f0 := BX1.out.frozen 0
    have f1 := BX1.out.frozen 1
    have f2 := BX1.out.frozen 2
    have f3 := BX1.out.frozen 3
    have f4 := BX1.out.frozen 4
    have f5 := BX1.out.frozen 5
    have lX := BX1.out.lt
    go_wp2_with fail
    change bodyPost _ _ _ _ _ (put6 w1 (w.heap.size + 1) (.int .i64 4) (.int .i64 0) (.int .i64 0) (.string ⟨#[]⟩) (.bool false) (.int .i64 5))
    have bX2 := Lib.hid (blk_put6 BX1.out (.int .i64 4) (.int .i64 0) (.int .i64 0) (.string ⟨#[]⟩) (.bool false) (.int .i64 5))
    have HO9 := Lib.hid (below_put6 HB1.out (Nat.le_succ _) (.int .i64 4) (.int .i64 0) (.int .i64 0) (.string ⟨#[]⟩) (.bool false) (.int .i64 5))
    generalize put6 w1 (w.heap.size + 1) (.int .i64 4) (.int .i64 0) (.int .i64 0) (.string ⟨#[]⟩) (.bool false) (.int .i64 5) = W2 at *
    have d0 := bX2.out.cell 0
    have d1 := bX2.out.cell 1
    have d2 := bX2.out.cell 2
    have d3 := bX2.out.cell 3
    have d4 := bX2.out.cell 4
    have d5 := bX2.out.cell 5
    simp only [List.getElem?_toArray, List.getElem?_cons_zero, List.getElem?_cons_succ] at d0 d1 d2 d3 d4 d5
    exact bodyPost_ret (v := .agg #[(.int .i64 4), (.int .i64 0), (.int .i64 0), (.string ⟨#[]⟩), (.bool false), (.int .i64 5)]) (by simp [results, Tryz.f115, go_sem, d0, d1, d2, d3, d4, d5]) rfl ⟨rfl, HO9.out⟩
  · have e : toldV (m, e) true = ⟨1, m, e, ⟨#[]⟩, false, 0⟩ := rfl
    rw [e]
    clear e
    go_enter Tryz.func115, Tryz.ntmps115
    go_wp2_with fail
    generalize ((w.alloc (.cells #[.int .i64 m, .int .i64 e] 39)).alloc (.cells #[.int .i64 0, .int .i64 0, .int .i64 0, .string ⟨#[]⟩, .bool false, .int .i64 0] 41)) = V at *
    have n0 := BN.out.cell 0
    have n1 := BN.out.cell 1
    simp only [List.getElem?_toArray, List.getElem?_cons_zero, List.getElem?_cons_succ] at n0 n1
    go_wp2_with fail
    refine (OF.out _).mono ?_
    rintro x w1 ⟨rfl, B1⟩
    have BX1 := Lib.hid (BX.out.kept (B1.block _ BX.out.lt))
    have HB1 := Lib.hid (HB.out.trans (B1.mono HB.out.size))
    clear B1 BX HB BN n0 n1
    have c0 := BX1.out.cell 0
    have c1 := BX1.out.cell 1
    have c2 := BX1.out.cell 2
    have c3 := BX1.out.cell 3
    have c4 := BX1.out.cell 4
    have c5 := BX1.out.cell 5
    simp only [List.getElem?_toArray, List.getElem?_cons_zero, List.getElem?_cons_succ] at c0 c1 c2 c3 c4 c5
    have f0 := BX1.out.frozen 0
    have f1 := BX1.out.frozen 1
    have f2 := BX1.out.frozen 2
    have f3 := BX1.out.frozen 3
    have f4 := BX1.out.frozen 4
    have f5 := BX1.out.frozen 5
    have lX := BX1.out.lt
    go_wp2_with fail
    change bodyPost _ _ _ _ _ (put6 w1 (w.heap.size + 1) (.int .i64 1) (.int .i64 m) (.int .i64 e) (.string ⟨#[]⟩) (.bool false) (.int .i64 0))
    have bX2 := Lib.hid (blk_put6 BX1.out (.int .i64 1) (.int .i64 m) (.int .i64 e) (.string ⟨#[]⟩) (.bool false) (.int .i64 0))
    have HO9 := Lib.hid (below_put6 HB1.out (Nat.le_succ _) (.int .i64 1) (.int .i64 m) (.int .i64 e) (.string ⟨#[]⟩) (.bool false) (.int .i64 0))
    generalize put6 w1 (w.heap.size + 1) (.int .i64 1) (.int .i64 m) (.int .i64 e) (.string ⟨#[]⟩) (.bool false) (.int .i64 0) = W2 at *
    have d0 := bX2.out.cell 0
    have d1 := bX2.out.cell 1
    have d2 := bX2.out.cell 2
    have d3 := bX2.out.cell 3
    have d4 := bX2.out.cell 4
    have d5 := bX2.out.cell 5
    simp only [List.getElem?_toArray, List.getElem?_cons_zero, List.getElem?_cons_succ] at d0 d1 d2 d3 d4 d5
    exact bodyPost_ret (v := .agg #[(.int .i64 1), (.int .i64 m), (.int .i64 e), (.string ⟨#[]⟩), (.bool false), (.int .i64 0)]) (by simp [results, Tryz.f115, go_sem, d0, d1, d2, d3, d4, d5]) rfl ⟨rfl, HO9.out⟩
noncomputable def reckV (f1 f2 : Int) (r : Option (Int × Int)) : Val := if f1 ≠ 0 then badV f1 else if f2 ≠ 0 then badV f2 else match r with
  | none => badV 5
  | some p => okV p
def NumFn (g : FuncId) (p q : Int × Int) (r : Option (Int × Int)) : Prop := ∀ W, PowT W → Calls Tryz.prog g #[.agg #[.int .i64 p.1, .int .i64 p.2], .agg #[.int .i64 q.1, .int .i64 q.2]] W fun x w' => x = .returned (optV r) ∧ Below W.heap.size W w'
set_option maxRecDepth 100000 in
set_option maxHeartbeats 4000000 in
theorem reckSub_c (x y : Val) (p q : Int × Int) (f1 f2 : Int) (r : Option (Int × Int)) (hx : NumIs x p f1) (hy : NumIs y q f2) (hg : f1 = 0 → f2 = 0 → NumFn 63 p q r) (w : World) (htab : PowT w) :
    Calls Tryz.prog 103 #[.agg x.cs.toArray, .agg y.cs.toArray, .func (.func 63) #[] #[]] w fun e w' => e = .returned (.agg (reckV f1 f2 r).cs.toArray) ∧ Below w.heap.size w w' := by
  have HNU := Lib.hid (fun W => onumbers_c x y p q f1 f2 hx hy W)
  have HG := Lib.hid hg
  have HT := Lib.hid htab
  obtain ⟨x0, x1, x2, x3, x4, x5⟩ := x
  obtain ⟨y0, y1, y2, y3, y4, y5⟩ := y
  obtain ⟨p1, p2⟩ := p
  obtain ⟨q1, q2⟩ := q
  simp only [Val.cs] at HNU
  have B0 := Lib.hid (Bxs.start w [(41, #[.int .i64 x0, .int .i64 x1, .int .i64 x2, .string x3, .bool x4, .int .i64 x5]), (41, #[.int .i64 y0, .int .i64 y1, .int .i64 y2, .string y3, .bool y4, .int .i64 y5]), (41, #[.int .i64 0, .int .i64 0, .int .i64 0, .string ⟨#[]⟩, .bool false, .int .i64 0])])
  simp only [allocAll] at B0
  clear hx hy hg htab
  by_cases h1 : f1 = 0
  · by_cases h2 : f2 = 0
    · subst h1
      subst h2
      have e : numsR (p1, p2) (q1, q2) 0 0 = .tuple #[.agg #[.int .i64 p1, .int .i64 p2], .agg #[.int .i64 q1, .int .i64 q2], .int .i64 0] := by simp [numsR]
      simp only [e] at HNU
      clear e
      have e2 : reckV 0 0 r = toldV (r.getD (0, 0)) r.isSome := by cases r <;> rfl
      rw [e2]
      simp only [Val.cs]
      go_enter Tryz.func103, Tryz.ntmps103
      go_wp2_with fail
      refine (HNU.out _).mono ?_
      rintro z w1 ⟨rfl, hb⟩
      have B1 := Lib.hid (B0.out.next hb)
      clear hb B0
      go_wp2_with fail
      have hn : optV r = .tuple #[.agg #[.int .i64 (r.getD (0, 0)).1, .int .i64 (r.getD (0, 0)).2], .bool r.isSome] := by cases r <;> rfl
      have W1 := ((Below.refl _ w1).alloc (Nat.le_refl _) (.cells #[.int .i64 p1, .int .i64 p2] 39)).alloc (by simp) (.cells #[.int .i64 q1, .int .i64 q2] 39)
      have B2 := Lib.hid (B1.out.next W1)
      clear e2 W1 B1 HNU
      generalize ((w1.alloc (.cells #[.int .i64 p1, .int .i64 p2] 39)).alloc (.cells #[.int .i64 q1, .int .i64 q2] 39)) = V2 at *
      refine (HG.out (by simp) (by simp) V2 (HT.out.next B2.out.below)).mono ?_
      rintro z w3 ⟨rfl, hb⟩
      rw [hn]
      have B3 := Lib.hid (B2.out.next hb)
      clear hb B2 hn HG
      go_wp2_with fail
      refine (otold_c (r.getD (0, 0)).1 (r.getD (0, 0)).2 r.isSome _).mono ?_
      rintro z w4 ⟨rfl, hb⟩
      have k := (B3.out.next hb).box 2 _ _ rfl
      have BX1 := Lib.hid (show Blk w4 (w.heap.size + 1 + 1) 41 #[.int .i64 0, .int .i64 0, .int .i64 0, .string ⟨#[]⟩, .bool false, .int .i64 0] from k)
      have HB1 := Lib.hid (B3.out.next hb).below
      clear k B3 hb
      have c0 := BX1.out.cell 0
      have c1 := BX1.out.cell 1
      have c2 := BX1.out.cell 2
      have c3 := BX1.out.cell 3
      have c4 := BX1.out.cell 4
      have c5 := BX1.out.cell 5
      simp only [List.getElem?_toArray, List.getElem?_cons_zero, List.getElem?_cons_succ] at c0 c1 c2 c3 c4 c5
      have g0 := BX1.out.frozen 0
      have g1 := BX1.out.frozen 1
      have g2 := BX1.out.frozen 2
      have g3 := BX1.out.frozen 3
      have g4 := BX1.out.frozen 4
      have g5 := BX1.out.frozen 5
      have lX := BX1.out.lt
      simp only [Val.cs]
      go_wp2_with fail
      change bodyPost _ _ _ _ _ (put6 w4 (w.heap.size + 1 + 1) (.int .i64 (toldV (r.getD (0, 0)) r.isSome).kind) (.int .i64 (toldV (r.getD (0, 0)) r.isSome).mant) (.int .i64 (toldV (r.getD (0, 0)) r.isSome).exp) (.string (toldV (r.getD (0, 0)) r.isSome).text) (.bool (toldV (r.getD (0, 0)) r.isSome).truth) (.int .i64 (toldV (r.getD (0, 0)) r.isSome).fault))
      have bX2 := Lib.hid (blk_put6 BX1.out (.int .i64 (toldV (r.getD (0, 0)) r.isSome).kind) (.int .i64 (toldV (r.getD (0, 0)) r.isSome).mant) (.int .i64 (toldV (r.getD (0, 0)) r.isSome).exp) (.string (toldV (r.getD (0, 0)) r.isSome).text) (.bool (toldV (r.getD (0, 0)) r.isSome).truth) (.int .i64 (toldV (r.getD (0, 0)) r.isSome).fault))
      have HO9 := Lib.hid (below_put6 HB1.out (Nat.le_trans (Nat.le_succ _) (Nat.le_succ _)) (.int .i64 (toldV (r.getD (0, 0)) r.isSome).kind) (.int .i64 (toldV (r.getD (0, 0)) r.isSome).mant) (.int .i64 (toldV (r.getD (0, 0)) r.isSome).exp) (.string (toldV (r.getD (0, 0)) r.isSome).text) (.bool (toldV (r.getD (0, 0)) r.isSome).truth) (.int .i64 (toldV (r.getD (0, 0)) r.isSome).fault))
      generalize put6 w4 (w.heap.size + 1 + 1) (.int .i64 (toldV (r.getD (0, 0)) r.isSome).kind) (.int .i64 (toldV (r.getD (0, 0)) r.isSome).mant) (.int .i64 (toldV (r.getD (0, 0)) r.isSome).exp) (.string (toldV (r.getD (0, 0)) r.isSome).text) (.bool (toldV (r.getD (0, 0)) r.isSome).truth) (.int .i64 (toldV (r.getD (0, 0)) r.isSome).fault) = W2 at *
      have d0 := bX2.out.cell 0
      have d1 := bX2.out.cell 1
      have d2 := bX2.out.cell 2
      have d3 := bX2.out.cell 3
      have d4 := bX2.out.cell 4
      have d5 := bX2.out.cell 5
      simp only [List.getElem?_toArray, List.getElem?_cons_zero, List.getElem?_cons_succ] at d0 d1 d2 d3 d4 d5
      exact bodyPost_ret (v := .agg #[(.int .i64 (toldV (r.getD (0, 0)) r.isSome).kind), (.int .i64 (toldV (r.getD (0, 0)) r.isSome).mant), (.int .i64 (toldV (r.getD (0, 0)) r.isSome).exp), (.string (toldV (r.getD (0, 0)) r.isSome).text), (.bool (toldV (r.getD (0, 0)) r.isSome).truth), (.int .i64 (toldV (r.getD (0, 0)) r.isSome).fault)]) (by simp [results, Tryz.f103, go_sem, d0, d1, d2, d3, d4, d5]) rfl ⟨(by rfl), HO9.out⟩
    · skip
      simp only [Val.cs]
      have e : numsR (p1, p2) (q1, q2) f1 f2 = .tuple #[.agg #[.int .i64 0, .int .i64 0], .agg #[.int .i64 0, .int .i64 0], .int .i64 f2] := by simp [numsR, h1, h2]
      have e2 : reckV f1 f2 r = badV f2 := by simp [reckV, h1, h2]
      have hd : decide (f2 = 0) = false := by simp [h1, h2]
      have hd2 : ¬ f2 = 0 := by simp [h1, h2]
      simp only [e] at HNU
      rw [e2]
      clear e e2 HG
      go_enter Tryz.func103, Tryz.ntmps103
      go_wp2_with fail
      refine (HNU.out _).mono ?_
      rintro z w1 ⟨rfl, hb⟩
      have B1 := Lib.hid (B0.out.next hb)
      clear hb B0
      have W1 := ((Below.refl _ w1).alloc (Nat.le_refl _) (.cells #[.int .i64 0, .int .i64 0] 39)).alloc (by simp) (.cells #[.int .i64 0, .int .i64 0] 39)
      have B2 := Lib.hid (B1.out.next W1)
      clear B1 W1 HNU
      go_wp2_with fail
      refine (vbad_c f2 _).mono ?_
      rintro z w3 ⟨rfl, hb⟩
      have B3 := Lib.hid (B2.out.next hb)
      clear hb B2
      have k := B3.out.box 2 _ _ rfl
      have BX1 := Lib.hid (show Blk w3 (w.heap.size + 1 + 1) 41 #[.int .i64 0, .int .i64 0, .int .i64 0, .string ⟨#[]⟩, .bool false, .int .i64 0] from k)
      have HB1 := Lib.hid B3.out.below
      clear k B3
      have c0 := BX1.out.cell 0
      have c1 := BX1.out.cell 1
      have c2 := BX1.out.cell 2
      have c3 := BX1.out.cell 3
      have c4 := BX1.out.cell 4
      have c5 := BX1.out.cell 5
      simp only [List.getElem?_toArray, List.getElem?_cons_zero, List.getElem?_cons_succ] at c0 c1 c2 c3 c4 c5
      have g0 := BX1.out.frozen 0
      have g1 := BX1.out.frozen 1
      have g2 := BX1.out.frozen 2
      have g3 := BX1.out.frozen 3
      have g4 := BX1.out.frozen 4
      have g5 := BX1.out.frozen 5
      have lX := BX1.out.lt
      simp only [Val.cs]
      go_wp2_with fail
      change bodyPost _ _ _ _ _ (put6 w3 (w.heap.size + 1 + 1) (.int .i64 (badV f2).kind) (.int .i64 (badV f2).mant) (.int .i64 (badV f2).exp) (.string (badV f2).text) (.bool (badV f2).truth) (.int .i64 (badV f2).fault))
      have bX2 := Lib.hid (blk_put6 BX1.out (.int .i64 (badV f2).kind) (.int .i64 (badV f2).mant) (.int .i64 (badV f2).exp) (.string (badV f2).text) (.bool (badV f2).truth) (.int .i64 (badV f2).fault))
      have HO9 := Lib.hid (below_put6 HB1.out (Nat.le_trans (Nat.le_succ _) (Nat.le_succ _)) (.int .i64 (badV f2).kind) (.int .i64 (badV f2).mant) (.int .i64 (badV f2).exp) (.string (badV f2).text) (.bool (badV f2).truth) (.int .i64 (badV f2).fault))
      generalize put6 w3 (w.heap.size + 1 + 1) (.int .i64 (badV f2).kind) (.int .i64 (badV f2).mant) (.int .i64 (badV f2).exp) (.string (badV f2).text) (.bool (badV f2).truth) (.int .i64 (badV f2).fault) = W2 at *
      have d0 := bX2.out.cell 0
      have d1 := bX2.out.cell 1
      have d2 := bX2.out.cell 2
      have d3 := bX2.out.cell 3
      have d4 := bX2.out.cell 4
      have d5 := bX2.out.cell 5
      simp only [List.getElem?_toArray, List.getElem?_cons_zero, List.getElem?_cons_succ] at d0 d1 d2 d3 d4 d5
      exact bodyPost_ret (v := .agg #[(.int .i64 (badV f2).kind), (.int .i64 (badV f2).mant), (.int .i64 (badV f2).exp), (.string (badV f2).text), (.bool (badV f2).truth), (.int .i64 (badV f2).fault)]) (by simp [results, Tryz.f103, go_sem, d0, d1, d2, d3, d4, d5]) rfl ⟨(by rfl), HO9.out⟩
  · simp only [Val.cs]
    by_cases h2 : f2 = 0
    · skip
      have e : numsR (p1, p2) (q1, q2) f1 f2 = .tuple #[.agg #[.int .i64 0, .int .i64 0], .agg #[.int .i64 0, .int .i64 0], .int .i64 f1] := by simp [numsR, h1, h2]
      have e2 : reckV f1 f2 r = badV f1 := by simp [reckV, h1, h2]
      have hd : decide (f1 = 0) = false := by simp [h1, h2]
      have hd2 : ¬ f1 = 0 := by simp [h1, h2]
      simp only [e] at HNU
      rw [e2]
      clear e e2 HG
      go_enter Tryz.func103, Tryz.ntmps103
      go_wp2_with fail
      refine (HNU.out _).mono ?_
      rintro z w1 ⟨rfl, hb⟩
      have B1 := Lib.hid (B0.out.next hb)
      clear hb B0
      have W1 := ((Below.refl _ w1).alloc (Nat.le_refl _) (.cells #[.int .i64 0, .int .i64 0] 39)).alloc (by simp) (.cells #[.int .i64 0, .int .i64 0] 39)
      have B2 := Lib.hid (B1.out.next W1)
      clear B1 W1 HNU
      go_wp2_with fail
      refine (vbad_c f1 _).mono ?_
      rintro z w3 ⟨rfl, hb⟩
      have B3 := Lib.hid (B2.out.next hb)
      clear hb B2
      have k := B3.out.box 2 _ _ rfl
      have BX1 := Lib.hid (show Blk w3 (w.heap.size + 1 + 1) 41 #[.int .i64 0, .int .i64 0, .int .i64 0, .string ⟨#[]⟩, .bool false, .int .i64 0] from k)
      have HB1 := Lib.hid B3.out.below
      clear k B3
      have c0 := BX1.out.cell 0
      have c1 := BX1.out.cell 1
      have c2 := BX1.out.cell 2
      have c3 := BX1.out.cell 3
      have c4 := BX1.out.cell 4
      have c5 := BX1.out.cell 5
      simp only [List.getElem?_toArray, List.getElem?_cons_zero, List.getElem?_cons_succ] at c0 c1 c2 c3 c4 c5
      have g0 := BX1.out.frozen 0
      have g1 := BX1.out.frozen 1
      have g2 := BX1.out.frozen 2
      have g3 := BX1.out.frozen 3
      have g4 := BX1.out.frozen 4
      have g5 := BX1.out.frozen 5
      have lX := BX1.out.lt
      simp only [Val.cs]
      go_wp2_with fail
      change bodyPost _ _ _ _ _ (put6 w3 (w.heap.size + 1 + 1) (.int .i64 (badV f1).kind) (.int .i64 (badV f1).mant) (.int .i64 (badV f1).exp) (.string (badV f1).text) (.bool (badV f1).truth) (.int .i64 (badV f1).fault))
      have bX2 := Lib.hid (blk_put6 BX1.out (.int .i64 (badV f1).kind) (.int .i64 (badV f1).mant) (.int .i64 (badV f1).exp) (.string (badV f1).text) (.bool (badV f1).truth) (.int .i64 (badV f1).fault))
      have HO9 := Lib.hid (below_put6 HB1.out (Nat.le_trans (Nat.le_succ _) (Nat.le_succ _)) (.int .i64 (badV f1).kind) (.int .i64 (badV f1).mant) (.int .i64 (badV f1).exp) (.string (badV f1).text) (.bool (badV f1).truth) (.int .i64 (badV f1).fault))
      generalize put6 w3 (w.heap.size + 1 + 1) (.int .i64 (badV f1).kind) (.int .i64 (badV f1).mant) (.int .i64 (badV f1).exp) (.string (badV f1).text) (.bool (badV f1).truth) (.int .i64 (badV f1).fault) = W2 at *
      have d0 := bX2.out.cell 0
      have d1 := bX2.out.cell 1
      have d2 := bX2.out.cell 2
      have d3 := bX2.out.cell 3
      have d4 := bX2.out.cell 4
      have d5 := bX2.out.cell 5
      simp only [List.getElem?_toArray, List.getElem?_cons_zero, List.getElem?_cons_succ] at d0 d1 d2 d3 d4 d5
      exact bodyPost_ret (v := .agg #[(.int .i64 (badV f1).kind), (.int .i64 (badV f1).mant), (.int .i64 (badV f1).exp), (.string (badV f1).text), (.bool (badV f1).truth), (.int .i64 (badV f1).fault)]) (by simp [results, Tryz.f103, go_sem, d0, d1, d2, d3, d4, d5]) rfl ⟨(by rfl), HO9.out⟩
    · skip
      have e : numsR (p1, p2) (q1, q2) f1 f2 = .tuple #[.agg #[.int .i64 0, .int .i64 0], .agg #[.int .i64 0, .int .i64 0], .int .i64 f1] := by simp [numsR, h1, h2]
      have e2 : reckV f1 f2 r = badV f1 := by simp [reckV, h1, h2]
      have hd : decide (f1 = 0) = false := by simp [h1, h2]
      have hd2 : ¬ f1 = 0 := by simp [h1, h2]
      simp only [e] at HNU
      rw [e2]
      clear e e2 HG
      go_enter Tryz.func103, Tryz.ntmps103
      go_wp2_with fail
      refine (HNU.out _).mono ?_
      rintro z w1 ⟨rfl, hb⟩
      have B1 := Lib.hid (B0.out.next hb)
      clear hb B0
      have W1 := ((Below.refl _ w1).alloc (Nat.le_refl _) (.cells #[.int .i64 0, .int .i64 0] 39)).alloc (by simp) (.cells #[.int .i64 0, .int .i64 0] 39)
      have B2 := Lib.hid (B1.out.next W1)
      clear B1 W1 HNU
      go_wp2_with fail
      refine (vbad_c f1 _).mono ?_
      rintro z w3 ⟨rfl, hb⟩
      have B3 := Lib.hid (B2.out.next hb)
      clear hb B2
      have k := B3.out.box 2 _ _ rfl
      have BX1 := Lib.hid (show Blk w3 (w.heap.size + 1 + 1) 41 #[.int .i64 0, .int .i64 0, .int .i64 0, .string ⟨#[]⟩, .bool false, .int .i64 0] from k)
      have HB1 := Lib.hid B3.out.below
      clear k B3
      have c0 := BX1.out.cell 0
      have c1 := BX1.out.cell 1
      have c2 := BX1.out.cell 2
      have c3 := BX1.out.cell 3
      have c4 := BX1.out.cell 4
      have c5 := BX1.out.cell 5
      simp only [List.getElem?_toArray, List.getElem?_cons_zero, List.getElem?_cons_succ] at c0 c1 c2 c3 c4 c5
      have g0 := BX1.out.frozen 0
      have g1 := BX1.out.frozen 1
      have g2 := BX1.out.frozen 2
      have g3 := BX1.out.frozen 3
      have g4 := BX1.out.frozen 4
      have g5 := BX1.out.frozen 5
      have lX := BX1.out.lt
      simp only [Val.cs]
      go_wp2_with fail
      change bodyPost _ _ _ _ _ (put6 w3 (w.heap.size + 1 + 1) (.int .i64 (badV f1).kind) (.int .i64 (badV f1).mant) (.int .i64 (badV f1).exp) (.string (badV f1).text) (.bool (badV f1).truth) (.int .i64 (badV f1).fault))
      have bX2 := Lib.hid (blk_put6 BX1.out (.int .i64 (badV f1).kind) (.int .i64 (badV f1).mant) (.int .i64 (badV f1).exp) (.string (badV f1).text) (.bool (badV f1).truth) (.int .i64 (badV f1).fault))
      have HO9 := Lib.hid (below_put6 HB1.out (Nat.le_trans (Nat.le_succ _) (Nat.le_succ _)) (.int .i64 (badV f1).kind) (.int .i64 (badV f1).mant) (.int .i64 (badV f1).exp) (.string (badV f1).text) (.bool (badV f1).truth) (.int .i64 (badV f1).fault))
      generalize put6 w3 (w.heap.size + 1 + 1) (.int .i64 (badV f1).kind) (.int .i64 (badV f1).mant) (.int .i64 (badV f1).exp) (.string (badV f1).text) (.bool (badV f1).truth) (.int .i64 (badV f1).fault) = W2 at *
      have d0 := bX2.out.cell 0
      have d1 := bX2.out.cell 1
      have d2 := bX2.out.cell 2
      have d3 := bX2.out.cell 3
      have d4 := bX2.out.cell 4
      have d5 := bX2.out.cell 5
      simp only [List.getElem?_toArray, List.getElem?_cons_zero, List.getElem?_cons_succ] at d0 d1 d2 d3 d4 d5
      exact bodyPost_ret (v := .agg #[(.int .i64 (badV f1).kind), (.int .i64 (badV f1).mant), (.int .i64 (badV f1).exp), (.string (badV f1).text), (.bool (badV f1).truth), (.int .i64 (badV f1).fault)]) (by simp [results, Tryz.f103, go_sem, d0, d1, d2, d3, d4, d5]) rfl ⟨(by rfl), HO9.out⟩
set_option maxRecDepth 100000 in
set_option maxHeartbeats 4000000 in
theorem reckMul_c (x y : Val) (p q : Int × Int) (f1 f2 : Int) (r : Option (Int × Int)) (hx : NumIs x p f1) (hy : NumIs y q f2) (hg : f1 = 0 → f2 = 0 → NumFn 64 p q r) (w : World) (htab : PowT w) :
    Calls Tryz.prog 103 #[.agg x.cs.toArray, .agg y.cs.toArray, .func (.func 64) #[] #[]] w fun e w' => e = .returned (.agg (reckV f1 f2 r).cs.toArray) ∧ Below w.heap.size w w' := by
  have HNU := Lib.hid (fun W => onumbers_c x y p q f1 f2 hx hy W)
  have HG := Lib.hid hg
  have HT := Lib.hid htab
  obtain ⟨x0, x1, x2, x3, x4, x5⟩ := x
  obtain ⟨y0, y1, y2, y3, y4, y5⟩ := y
  obtain ⟨p1, p2⟩ := p
  obtain ⟨q1, q2⟩ := q
  simp only [Val.cs] at HNU
  have B0 := Lib.hid (Bxs.start w [(41, #[.int .i64 x0, .int .i64 x1, .int .i64 x2, .string x3, .bool x4, .int .i64 x5]), (41, #[.int .i64 y0, .int .i64 y1, .int .i64 y2, .string y3, .bool y4, .int .i64 y5]), (41, #[.int .i64 0, .int .i64 0, .int .i64 0, .string ⟨#[]⟩, .bool false, .int .i64 0])])
  simp only [allocAll] at B0
  clear hx hy hg htab
  by_cases h1 : f1 = 0
  · by_cases h2 : f2 = 0
    · subst h1
      subst h2
      have e : numsR (p1, p2) (q1, q2) 0 0 = .tuple #[.agg #[.int .i64 p1, .int .i64 p2], .agg #[.int .i64 q1, .int .i64 q2], .int .i64 0] := by simp [numsR]
      simp only [e] at HNU
      clear e
      have e2 : reckV 0 0 r = toldV (r.getD (0, 0)) r.isSome := by cases r <;> rfl
      rw [e2]
      simp only [Val.cs]
      go_enter Tryz.func103, Tryz.ntmps103
      go_wp2_with fail
      refine (HNU.out _).mono ?_
      rintro z w1 ⟨rfl, hb⟩
      have B1 := Lib.hid (B0.out.next hb)
      clear hb B0
      go_wp2_with fail
      have hn : optV r = .tuple #[.agg #[.int .i64 (r.getD (0, 0)).1, .int .i64 (r.getD (0, 0)).2], .bool r.isSome] := by cases r <;> rfl
      have W1 := ((Below.refl _ w1).alloc (Nat.le_refl _) (.cells #[.int .i64 p1, .int .i64 p2] 39)).alloc (by simp) (.cells #[.int .i64 q1, .int .i64 q2] 39)
      have B2 := Lib.hid (B1.out.next W1)
      clear e2 W1 B1 HNU
      generalize ((w1.alloc (.cells #[.int .i64 p1, .int .i64 p2] 39)).alloc (.cells #[.int .i64 q1, .int .i64 q2] 39)) = V2 at *
      refine (HG.out (by simp) (by simp) V2 (HT.out.next B2.out.below)).mono ?_
      rintro z w3 ⟨rfl, hb⟩
      rw [hn]
      have B3 := Lib.hid (B2.out.next hb)
      clear hb B2 hn HG
      go_wp2_with fail
      refine (otold_c (r.getD (0, 0)).1 (r.getD (0, 0)).2 r.isSome _).mono ?_
      rintro z w4 ⟨rfl, hb⟩
      have k := (B3.out.next hb).box 2 _ _ rfl
      have BX1 := Lib.hid (show Blk w4 (w.heap.size + 1 + 1) 41 #[.int .i64 0, .int .i64 0, .int .i64 0, .string ⟨#[]⟩, .bool false, .int .i64 0] from k)
      have HB1 := Lib.hid (B3.out.next hb).below
      clear k B3 hb
      have c0 := BX1.out.cell 0
      have c1 := BX1.out.cell 1
      have c2 := BX1.out.cell 2
      have c3 := BX1.out.cell 3
      have c4 := BX1.out.cell 4
      have c5 := BX1.out.cell 5
      simp only [List.getElem?_toArray, List.getElem?_cons_zero, List.getElem?_cons_succ] at c0 c1 c2 c3 c4 c5
      have g0 := BX1.out.frozen 0
      have g1 := BX1.out.frozen 1
      have g2 := BX1.out.frozen 2
      have g3 := BX1.out.frozen 3
      have g4 := BX1.out.frozen 4
      have g5 := BX1.out.frozen 5
      have lX := BX1.out.lt
      simp only [Val.cs]
      go_wp2_with fail
      change bodyPost _ _ _ _ _ (put6 w4 (w.heap.size + 1 + 1) (.int .i64 (toldV (r.getD (0, 0)) r.isSome).kind) (.int .i64 (toldV (r.getD (0, 0)) r.isSome).mant) (.int .i64 (toldV (r.getD (0, 0)) r.isSome).exp) (.string (toldV (r.getD (0, 0)) r.isSome).text) (.bool (toldV (r.getD (0, 0)) r.isSome).truth) (.int .i64 (toldV (r.getD (0, 0)) r.isSome).fault))
      have bX2 := Lib.hid (blk_put6 BX1.out (.int .i64 (toldV (r.getD (0, 0)) r.isSome).kind) (.int .i64 (toldV (r.getD (0, 0)) r.isSome).mant) (.int .i64 (toldV (r.getD (0, 0)) r.isSome).exp) (.string (toldV (r.getD (0, 0)) r.isSome).text) (.bool (toldV (r.getD (0, 0)) r.isSome).truth) (.int .i64 (toldV (r.getD (0, 0)) r.isSome).fault))
      have HO9 := Lib.hid (below_put6 HB1.out (Nat.le_trans (Nat.le_succ _) (Nat.le_succ _)) (.int .i64 (toldV (r.getD (0, 0)) r.isSome).kind) (.int .i64 (toldV (r.getD (0, 0)) r.isSome).mant) (.int .i64 (toldV (r.getD (0, 0)) r.isSome).exp) (.string (toldV (r.getD (0, 0)) r.isSome).text) (.bool (toldV (r.getD (0, 0)) r.isSome).truth) (.int .i64 (toldV (r.getD (0, 0)) r.isSome).fault))
      generalize put6 w4 (w.heap.size + 1 + 1) (.int .i64 (toldV (r.getD (0, 0)) r.isSome).kind) (.int .i64 (toldV (r.getD (0, 0)) r.isSome).mant) (.int .i64 (toldV (r.getD (0, 0)) r.isSome).exp) (.string (toldV (r.getD (0, 0)) r.isSome).text) (.bool (toldV (r.getD (0, 0)) r.isSome).truth) (.int .i64 (toldV (r.getD (0, 0)) r.isSome).fault) = W2 at *
      have d0 := bX2.out.cell 0
      have d1 := bX2.out.cell 1
      have d2 := bX2.out.cell 2
      have d3 := bX2.out.cell 3
      have d4 := bX2.out.cell 4
      have d5 := bX2.out.cell 5
      simp only [List.getElem?_toArray, List.getElem?_cons_zero, List.getElem?_cons_succ] at d0 d1 d2 d3 d4 d5
      exact bodyPost_ret (v := .agg #[(.int .i64 (toldV (r.getD (0, 0)) r.isSome).kind), (.int .i64 (toldV (r.getD (0, 0)) r.isSome).mant), (.int .i64 (toldV (r.getD (0, 0)) r.isSome).exp), (.string (toldV (r.getD (0, 0)) r.isSome).text), (.bool (toldV (r.getD (0, 0)) r.isSome).truth), (.int .i64 (toldV (r.getD (0, 0)) r.isSome).fault)]) (by simp [results, Tryz.f103, go_sem, d0, d1, d2, d3, d4, d5]) rfl ⟨(by rfl), HO9.out⟩
    · skip
      simp only [Val.cs]
      have e : numsR (p1, p2) (q1, q2) f1 f2 = .tuple #[.agg #[.int .i64 0, .int .i64 0], .agg #[.int .i64 0, .int .i64 0], .int .i64 f2] := by simp [numsR, h1, h2]
      have e2 : reckV f1 f2 r = badV f2 := by simp [reckV, h1, h2]
      have hd : decide (f2 = 0) = false := by simp [h1, h2]
      have hd2 : ¬ f2 = 0 := by simp [h1, h2]
      simp only [e] at HNU
      rw [e2]
      clear e e2 HG
      go_enter Tryz.func103, Tryz.ntmps103
      go_wp2_with fail
      refine (HNU.out _).mono ?_
      rintro z w1 ⟨rfl, hb⟩
      have B1 := Lib.hid (B0.out.next hb)
      clear hb B0
      have W1 := ((Below.refl _ w1).alloc (Nat.le_refl _) (.cells #[.int .i64 0, .int .i64 0] 39)).alloc (by simp) (.cells #[.int .i64 0, .int .i64 0] 39)
      have B2 := Lib.hid (B1.out.next W1)
      clear B1 W1 HNU
      go_wp2_with fail
      refine (vbad_c f2 _).mono ?_
      rintro z w3 ⟨rfl, hb⟩
      have B3 := Lib.hid (B2.out.next hb)
      clear hb B2
      have k := B3.out.box 2 _ _ rfl
      have BX1 := Lib.hid (show Blk w3 (w.heap.size + 1 + 1) 41 #[.int .i64 0, .int .i64 0, .int .i64 0, .string ⟨#[]⟩, .bool false, .int .i64 0] from k)
      have HB1 := Lib.hid B3.out.below
      clear k B3
      have c0 := BX1.out.cell 0
      have c1 := BX1.out.cell 1
      have c2 := BX1.out.cell 2
      have c3 := BX1.out.cell 3
      have c4 := BX1.out.cell 4
      have c5 := BX1.out.cell 5
      simp only [List.getElem?_toArray, List.getElem?_cons_zero, List.getElem?_cons_succ] at c0 c1 c2 c3 c4 c5
      have g0 := BX1.out.frozen 0
      have g1 := BX1.out.frozen 1
      have g2 := BX1.out.frozen 2
      have g3 := BX1.out.frozen 3
      have g4 := BX1.out.frozen 4
      have g5 := BX1.out.frozen 5
      have lX := BX1.out.lt
      simp only [Val.cs]
      go_wp2_with fail
      change bodyPost _ _ _ _ _ (put6 w3 (w.heap.size + 1 + 1) (.int .i64 (badV f2).kind) (.int .i64 (badV f2).mant) (.int .i64 (badV f2).exp) (.string (badV f2).text) (.bool (badV f2).truth) (.int .i64 (badV f2).fault))
      have bX2 := Lib.hid (blk_put6 BX1.out (.int .i64 (badV f2).kind) (.int .i64 (badV f2).mant) (.int .i64 (badV f2).exp) (.string (badV f2).text) (.bool (badV f2).truth) (.int .i64 (badV f2).fault))
      have HO9 := Lib.hid (below_put6 HB1.out (Nat.le_trans (Nat.le_succ _) (Nat.le_succ _)) (.int .i64 (badV f2).kind) (.int .i64 (badV f2).mant) (.int .i64 (badV f2).exp) (.string (badV f2).text) (.bool (badV f2).truth) (.int .i64 (badV f2).fault))
      generalize put6 w3 (w.heap.size + 1 + 1) (.int .i64 (badV f2).kind) (.int .i64 (badV f2).mant) (.int .i64 (badV f2).exp) (.string (badV f2).text) (.bool (badV f2).truth) (.int .i64 (badV f2).fault) = W2 at *
      have d0 := bX2.out.cell 0
      have d1 := bX2.out.cell 1
      have d2 := bX2.out.cell 2
      have d3 := bX2.out.cell 3
      have d4 := bX2.out.cell 4
      have d5 := bX2.out.cell 5
      simp only [List.getElem?_toArray, List.getElem?_cons_zero, List.getElem?_cons_succ] at d0 d1 d2 d3 d4 d5
      exact bodyPost_ret (v := .agg #[(.int .i64 (badV f2).kind), (.int .i64 (badV f2).mant), (.int .i64 (badV f2).exp), (.string (badV f2).text), (.bool (badV f2).truth), (.int .i64 (badV f2).fault)]) (by simp [results, Tryz.f103, go_sem, d0, d1, d2, d3, d4, d5]) rfl ⟨(by rfl), HO9.out⟩
  · simp only [Val.cs]
    by_cases h2 : f2 = 0
    · skip
      have e : numsR (p1, p2) (q1, q2) f1 f2 = .tuple #[.agg #[.int .i64 0, .int .i64 0], .agg #[.int .i64 0, .int .i64 0], .int .i64 f1] := by simp [numsR, h1, h2]
      have e2 : reckV f1 f2 r = badV f1 := by simp [reckV, h1, h2]
      have hd : decide (f1 = 0) = false := by simp [h1, h2]
      have hd2 : ¬ f1 = 0 := by simp [h1, h2]
      simp only [e] at HNU
      rw [e2]
      clear e e2 HG
      go_enter Tryz.func103, Tryz.ntmps103
      go_wp2_with fail
      refine (HNU.out _).mono ?_
      rintro z w1 ⟨rfl, hb⟩
      have B1 := Lib.hid (B0.out.next hb)
      clear hb B0
      have W1 := ((Below.refl _ w1).alloc (Nat.le_refl _) (.cells #[.int .i64 0, .int .i64 0] 39)).alloc (by simp) (.cells #[.int .i64 0, .int .i64 0] 39)
      have B2 := Lib.hid (B1.out.next W1)
      clear B1 W1 HNU
      go_wp2_with fail
      refine (vbad_c f1 _).mono ?_
      rintro z w3 ⟨rfl, hb⟩
      have B3 := Lib.hid (B2.out.next hb)
      clear hb B2
      have k := B3.out.box 2 _ _ rfl
      have BX1 := Lib.hid (show Blk w3 (w.heap.size + 1 + 1) 41 #[.int .i64 0, .int .i64 0, .int .i64 0, .string ⟨#[]⟩, .bool false, .int .i64 0] from k)
      have HB1 := Lib.hid B3.out.below
      clear k B3
      have c0 := BX1.out.cell 0
      have c1 := BX1.out.cell 1
      have c2 := BX1.out.cell 2
      have c3 := BX1.out.cell 3
      have c4 := BX1.out.cell 4
      have c5 := BX1.out.cell 5
      simp only [List.getElem?_toArray, List.getElem?_cons_zero, List.getElem?_cons_succ] at c0 c1 c2 c3 c4 c5
      have g0 := BX1.out.frozen 0
      have g1 := BX1.out.frozen 1
      have g2 := BX1.out.frozen 2
      have g3 := BX1.out.frozen 3
      have g4 := BX1.out.frozen 4
      have g5 := BX1.out.frozen 5
      have lX := BX1.out.lt
      simp only [Val.cs]
      go_wp2_with fail
      change bodyPost _ _ _ _ _ (put6 w3 (w.heap.size + 1 + 1) (.int .i64 (badV f1).kind) (.int .i64 (badV f1).mant) (.int .i64 (badV f1).exp) (.string (badV f1).text) (.bool (badV f1).truth) (.int .i64 (badV f1).fault))
      have bX2 := Lib.hid (blk_put6 BX1.out (.int .i64 (badV f1).kind) (.int .i64 (badV f1).mant) (.int .i64 (badV f1).exp) (.string (badV f1).text) (.bool (badV f1).truth) (.int .i64 (badV f1).fault))
      have HO9 := Lib.hid (below_put6 HB1.out (Nat.le_trans (Nat.le_succ _) (Nat.le_succ _)) (.int .i64 (badV f1).kind) (.int .i64 (badV f1).mant) (.int .i64 (badV f1).exp) (.string (badV f1).text) (.bool (badV f1).truth) (.int .i64 (badV f1).fault))
      generalize put6 w3 (w.heap.size + 1 + 1) (.int .i64 (badV f1).kind) (.int .i64 (badV f1).mant) (.int .i64 (badV f1).exp) (.string (badV f1).text) (.bool (badV f1).truth) (.int .i64 (badV f1).fault) = W2 at *
      have d0 := bX2.out.cell 0
      have d1 := bX2.out.cell 1
      have d2 := bX2.out.cell 2
      have d3 := bX2.out.cell 3
      have d4 := bX2.out.cell 4
      have d5 := bX2.out.cell 5
      simp only [List.getElem?_toArray, List.getElem?_cons_zero, List.getElem?_cons_succ] at d0 d1 d2 d3 d4 d5
      exact bodyPost_ret (v := .agg #[(.int .i64 (badV f1).kind), (.int .i64 (badV f1).mant), (.int .i64 (badV f1).exp), (.string (badV f1).text), (.bool (badV f1).truth), (.int .i64 (badV f1).fault)]) (by simp [results, Tryz.f103, go_sem, d0, d1, d2, d3, d4, d5]) rfl ⟨(by rfl), HO9.out⟩
    · skip
      have e : numsR (p1, p2) (q1, q2) f1 f2 = .tuple #[.agg #[.int .i64 0, .int .i64 0], .agg #[.int .i64 0, .int .i64 0], .int .i64 f1] := by simp [numsR, h1, h2]
      have e2 : reckV f1 f2 r = badV f1 := by simp [reckV, h1, h2]
      have hd : decide (f1 = 0) = false := by simp [h1, h2]
      have hd2 : ¬ f1 = 0 := by simp [h1, h2]
      simp only [e] at HNU
      rw [e2]
      clear e e2 HG
      go_enter Tryz.func103, Tryz.ntmps103
      go_wp2_with fail
      refine (HNU.out _).mono ?_
      rintro z w1 ⟨rfl, hb⟩
      have B1 := Lib.hid (B0.out.next hb)
      clear hb B0
      have W1 := ((Below.refl _ w1).alloc (Nat.le_refl _) (.cells #[.int .i64 0, .int .i64 0] 39)).alloc (by simp) (.cells #[.int .i64 0, .int .i64 0] 39)
      have B2 := Lib.hid (B1.out.next W1)
      clear B1 W1 HNU
      go_wp2_with fail
      refine (vbad_c f1 _).mono ?_
      rintro z w3 ⟨rfl, hb⟩
      have B3 := Lib.hid (B2.out.next hb)
      clear hb B2
      have k := B3.out.box 2 _ _ rfl
      have BX1 := Lib.hid (show Blk w3 (w.heap.size + 1 + 1) 41 #[.int .i64 0, .int .i64 0, .int .i64 0, .string ⟨#[]⟩, .bool false, .int .i64 0] from k)
      have HB1 := Lib.hid B3.out.below
      clear k B3
      have c0 := BX1.out.cell 0
      have c1 := BX1.out.cell 1
      have c2 := BX1.out.cell 2
      have c3 := BX1.out.cell 3
      have c4 := BX1.out.cell 4
      have c5 := BX1.out.cell 5
      simp only [List.getElem?_toArray, List.getElem?_cons_zero, List.getElem?_cons_succ] at c0 c1 c2 c3 c4 c5
      have g0 := BX1.out.frozen 0
      have g1 := BX1.out.frozen 1
      have g2 := BX1.out.frozen 2
      have g3 := BX1.out.frozen 3
      have g4 := BX1.out.frozen 4
      have g5 := BX1.out.frozen 5
      have lX := BX1.out.lt
      simp only [Val.cs]
      go_wp2_with fail
      change bodyPost _ _ _ _ _ (put6 w3 (w.heap.size + 1 + 1) (.int .i64 (badV f1).kind) (.int .i64 (badV f1).mant) (.int .i64 (badV f1).exp) (.string (badV f1).text) (.bool (badV f1).truth) (.int .i64 (badV f1).fault))
      have bX2 := Lib.hid (blk_put6 BX1.out (.int .i64 (badV f1).kind) (.int .i64 (badV f1).mant) (.int .i64 (badV f1).exp) (.string (badV f1).text) (.bool (badV f1).truth) (.int .i64 (badV f1).fault))
      have HO9 := Lib.hid (below_put6 HB1.out (Nat.le_trans (Nat.le_succ _) (Nat.le_succ _)) (.int .i64 (badV f1).kind) (.int .i64 (badV f1).mant) (.int .i64 (badV f1).exp) (.string (badV f1).text) (.bool (badV f1).truth) (.int .i64 (badV f1).fault))
      generalize put6 w3 (w.heap.size + 1 + 1) (.int .i64 (badV f1).kind) (.int .i64 (badV f1).mant) (.int .i64 (badV f1).exp) (.string (badV f1).text) (.bool (badV f1).truth) (.int .i64 (badV f1).fault) = W2 at *
      have d0 := bX2.out.cell 0
      have d1 := bX2.out.cell 1
      have d2 := bX2.out.cell 2
      have d3 := bX2.out.cell 3
      have d4 := bX2.out.cell 4
      have d5 := bX2.out.cell 5
      simp only [List.getElem?_toArray, List.getElem?_cons_zero, List.getElem?_cons_succ] at d0 d1 d2 d3 d4 d5
      exact bodyPost_ret (v := .agg #[(.int .i64 (badV f1).kind), (.int .i64 (badV f1).mant), (.int .i64 (badV f1).exp), (.string (badV f1).text), (.bool (badV f1).truth), (.int .i64 (badV f1).fault)]) (by simp [results, Tryz.f103, go_sem, d0, d1, d2, d3, d4, d5]) rfl ⟨(by rfl), HO9.out⟩
end Go.Proofs.YtdmbppgogdkpdaaGreatDoor
namespace Go.Proofs.YtdmbppgogdkpdaaGreatDoor
open Go.RowKit
set_option maxRecDepth 100000 in
set_option maxHeartbeats 1000000 in
theorem reckonSub_c (x y : Val) (p q : Int × Int) (f1 f2 : Int) (r : Option (Int × Int)) (bf : Nat) (hx : NumIs x p f1) (hy : NumIs y q f2) (hg : f1 = 0 → f2 = 0 → NumFn 63 p q r) (w : World) (htab : PowT w) (hf : w.cell? ⟨bf, 0, none⟩ = some (.func (.func 63) #[] #[])) :
    Calls Tryz.prog 102 #[.agg x.cs.toArray, .agg y.cs.toArray, .pointer (some ⟨bf, 0, none⟩)] w fun e w' => e = .returned (.agg (reckV f1 f2 r).cs.toArray) ∧ Below w.heap.size w w' := by
  have HK := Lib.hid (fun W (h : PowT W) => reckSub_c x y p q f1 f2 r hx hy hg W h)
  have HT := Lib.hid htab
  have hlt := World.block_lt_of_cell? w _ hf
  have HF := Lib.hid (fun W (h : Below w.heap.size w W) => (h.cell (p := ⟨bf, 0, none⟩) hlt).trans hf)
  obtain ⟨x0, x1, x2, x3, x4, x5⟩ := x
  obtain ⟨y0, y1, y2, y3, y4, y5⟩ := y
  simp only [Val.cs] at HK
  have B0 := Lib.hid (Bxs.start w [(41, #[.int .i64 x0, .int .i64 x1, .int .i64 x2, .string x3, .bool x4, .int .i64 x5]), (41, #[.int .i64 y0, .int .i64 y1, .int .i64 y2, .string y3, .bool y4, .int .i64 y5]), (41, #[.int .i64 0, .int .i64 0, .int .i64 0, .string ⟨#[]⟩, .bool false, .int .i64 0])])
  simp only [allocAll] at B0
  clear hx hy hg htab hf hlt
  have hc := HF.out _ B0.out.below
  simp only [Val.cs]
  go_enter Tryz.func102, Tryz.ntmps102
  go_wp2_with fail
  refine (HK.out _ (HT.out.next B0.out.below)).mono ?_
  rintro z w3 ⟨rfl, hb⟩
  have B3 := Lib.hid (B0.out.next hb)
  clear hb B0 hc
  have k := B3.out.box 2 _ _ rfl
  have BX1 := Lib.hid (show Blk w3 (w.heap.size + 1 + 1) 41 #[.int .i64 0, .int .i64 0, .int .i64 0, .string ⟨#[]⟩, .bool false, .int .i64 0] from k)
  have HB1 := Lib.hid B3.out.below
  clear k B3
  have c0 := BX1.out.cell 0
  have c1 := BX1.out.cell 1
  have c2 := BX1.out.cell 2
  have c3 := BX1.out.cell 3
  have c4 := BX1.out.cell 4
  have c5 := BX1.out.cell 5
  simp only [List.getElem?_toArray, List.getElem?_cons_zero, List.getElem?_cons_succ] at c0 c1 c2 c3 c4 c5
  have g0 := BX1.out.frozen 0
  have g1 := BX1.out.frozen 1
  have g2 := BX1.out.frozen 2
  have g3 := BX1.out.frozen 3
  have g4 := BX1.out.frozen 4
  have g5 := BX1.out.frozen 5
  have lX := BX1.out.lt
  go_wp2_with fail
  change bodyPost _ _ _ _ _ (put6 w3 (w.heap.size + 1 + 1) (.int .i64 (reckV f1 f2 r).kind) (.int .i64 (reckV f1 f2 r).mant) (.int .i64 (reckV f1 f2 r).exp) (.string (reckV f1 f2 r).text) (.bool (reckV f1 f2 r).truth) (.int .i64 (reckV f1 f2 r).fault))
  have bX2 := Lib.hid (blk_put6 BX1.out (.int .i64 (reckV f1 f2 r).kind) (.int .i64 (reckV f1 f2 r).mant) (.int .i64 (reckV f1 f2 r).exp) (.string (reckV f1 f2 r).text) (.bool (reckV f1 f2 r).truth) (.int .i64 (reckV f1 f2 r).fault))
  have HO9 := Lib.hid (below_put6 HB1.out (Nat.le_trans (Nat.le_succ _) (Nat.le_succ _)) (.int .i64 (reckV f1 f2 r).kind) (.int .i64 (reckV f1 f2 r).mant) (.int .i64 (reckV f1 f2 r).exp) (.string (reckV f1 f2 r).text) (.bool (reckV f1 f2 r).truth) (.int .i64 (reckV f1 f2 r).fault))
  generalize put6 w3 (w.heap.size + 1 + 1) (.int .i64 (reckV f1 f2 r).kind) (.int .i64 (reckV f1 f2 r).mant) (.int .i64 (reckV f1 f2 r).exp) (.string (reckV f1 f2 r).text) (.bool (reckV f1 f2 r).truth) (.int .i64 (reckV f1 f2 r).fault) = W2 at *
  have d0 := bX2.out.cell 0
  have d1 := bX2.out.cell 1
  have d2 := bX2.out.cell 2
  have d3 := bX2.out.cell 3
  have d4 := bX2.out.cell 4
  have d5 := bX2.out.cell 5
  simp only [List.getElem?_toArray, List.getElem?_cons_zero, List.getElem?_cons_succ] at d0 d1 d2 d3 d4 d5
  exact bodyPost_ret (v := .agg #[(.int .i64 (reckV f1 f2 r).kind), (.int .i64 (reckV f1 f2 r).mant), (.int .i64 (reckV f1 f2 r).exp), (.string (reckV f1 f2 r).text), (.bool (reckV f1 f2 r).truth), (.int .i64 (reckV f1 f2 r).fault)]) (by simp [results, Tryz.f102, go_sem, d0, d1, d2, d3, d4, d5]) rfl ⟨(by rfl), HO9.out⟩
set_option maxRecDepth 100000 in
set_option maxHeartbeats 1000000 in
theorem reckonMul_c (x y : Val) (p q : Int × Int) (f1 f2 : Int) (r : Option (Int × Int)) (bf : Nat) (hx : NumIs x p f1) (hy : NumIs y q f2) (hg : f1 = 0 → f2 = 0 → NumFn 64 p q r) (w : World) (htab : PowT w) (hf : w.cell? ⟨bf, 0, none⟩ = some (.func (.func 64) #[] #[])) :
    Calls Tryz.prog 102 #[.agg x.cs.toArray, .agg y.cs.toArray, .pointer (some ⟨bf, 0, none⟩)] w fun e w' => e = .returned (.agg (reckV f1 f2 r).cs.toArray) ∧ Below w.heap.size w w' := by
  have HK := Lib.hid (fun W (h : PowT W) => reckMul_c x y p q f1 f2 r hx hy hg W h)
  have HT := Lib.hid htab
  have hlt := World.block_lt_of_cell? w _ hf
  have HF := Lib.hid (fun W (h : Below w.heap.size w W) => (h.cell (p := ⟨bf, 0, none⟩) hlt).trans hf)
  obtain ⟨x0, x1, x2, x3, x4, x5⟩ := x
  obtain ⟨y0, y1, y2, y3, y4, y5⟩ := y
  simp only [Val.cs] at HK
  have B0 := Lib.hid (Bxs.start w [(41, #[.int .i64 x0, .int .i64 x1, .int .i64 x2, .string x3, .bool x4, .int .i64 x5]), (41, #[.int .i64 y0, .int .i64 y1, .int .i64 y2, .string y3, .bool y4, .int .i64 y5]), (41, #[.int .i64 0, .int .i64 0, .int .i64 0, .string ⟨#[]⟩, .bool false, .int .i64 0])])
  simp only [allocAll] at B0
  clear hx hy hg htab hf hlt
  have hc := HF.out _ B0.out.below
  simp only [Val.cs]
  go_enter Tryz.func102, Tryz.ntmps102
  go_wp2_with fail
  refine (HK.out _ (HT.out.next B0.out.below)).mono ?_
  rintro z w3 ⟨rfl, hb⟩
  have B3 := Lib.hid (B0.out.next hb)
  clear hb B0 hc
  have k := B3.out.box 2 _ _ rfl
  have BX1 := Lib.hid (show Blk w3 (w.heap.size + 1 + 1) 41 #[.int .i64 0, .int .i64 0, .int .i64 0, .string ⟨#[]⟩, .bool false, .int .i64 0] from k)
  have HB1 := Lib.hid B3.out.below
  clear k B3
  have c0 := BX1.out.cell 0
  have c1 := BX1.out.cell 1
  have c2 := BX1.out.cell 2
  have c3 := BX1.out.cell 3
  have c4 := BX1.out.cell 4
  have c5 := BX1.out.cell 5
  simp only [List.getElem?_toArray, List.getElem?_cons_zero, List.getElem?_cons_succ] at c0 c1 c2 c3 c4 c5
  have g0 := BX1.out.frozen 0
  have g1 := BX1.out.frozen 1
  have g2 := BX1.out.frozen 2
  have g3 := BX1.out.frozen 3
  have g4 := BX1.out.frozen 4
  have g5 := BX1.out.frozen 5
  have lX := BX1.out.lt
  go_wp2_with fail
  change bodyPost _ _ _ _ _ (put6 w3 (w.heap.size + 1 + 1) (.int .i64 (reckV f1 f2 r).kind) (.int .i64 (reckV f1 f2 r).mant) (.int .i64 (reckV f1 f2 r).exp) (.string (reckV f1 f2 r).text) (.bool (reckV f1 f2 r).truth) (.int .i64 (reckV f1 f2 r).fault))
  have bX2 := Lib.hid (blk_put6 BX1.out (.int .i64 (reckV f1 f2 r).kind) (.int .i64 (reckV f1 f2 r).mant) (.int .i64 (reckV f1 f2 r).exp) (.string (reckV f1 f2 r).text) (.bool (reckV f1 f2 r).truth) (.int .i64 (reckV f1 f2 r).fault))
  have HO9 := Lib.hid (below_put6 HB1.out (Nat.le_trans (Nat.le_succ _) (Nat.le_succ _)) (.int .i64 (reckV f1 f2 r).kind) (.int .i64 (reckV f1 f2 r).mant) (.int .i64 (reckV f1 f2 r).exp) (.string (reckV f1 f2 r).text) (.bool (reckV f1 f2 r).truth) (.int .i64 (reckV f1 f2 r).fault))
  generalize put6 w3 (w.heap.size + 1 + 1) (.int .i64 (reckV f1 f2 r).kind) (.int .i64 (reckV f1 f2 r).mant) (.int .i64 (reckV f1 f2 r).exp) (.string (reckV f1 f2 r).text) (.bool (reckV f1 f2 r).truth) (.int .i64 (reckV f1 f2 r).fault) = W2 at *
  have d0 := bX2.out.cell 0
  have d1 := bX2.out.cell 1
  have d2 := bX2.out.cell 2
  have d3 := bX2.out.cell 3
  have d4 := bX2.out.cell 4
  have d5 := bX2.out.cell 5
  simp only [List.getElem?_toArray, List.getElem?_cons_zero, List.getElem?_cons_succ] at d0 d1 d2 d3 d4 d5
  exact bodyPost_ret (v := .agg #[(.int .i64 (reckV f1 f2 r).kind), (.int .i64 (reckV f1 f2 r).mant), (.int .i64 (reckV f1 f2 r).exp), (.string (reckV f1 f2 r).text), (.bool (reckV f1 f2 r).truth), (.int .i64 (reckV f1 f2 r).fault)]) (by simp [results, Tryz.f102, go_sem, d0, d1, d2, d3, d4, d5]) rfl ⟨(by rfl), HO9.out⟩
end Go.Proofs.YtdmbppgogdkpdaaGreatDoor
namespace Go.Proofs.YtdmbppgogdkpdaaGreatDoor
open Go.RowKit
set_option maxRecDepth 100000 in
set_option maxHeartbeats 1000000 in
theorem toNum_num (m e : Int) (t : ByteArray) (b : Bool) (f : Int) : NumIs ⟨1, m, e, t, b, f⟩ (m, e) 0 := by
  intro w
  simp only [Val.cs]
  have B0 := Lib.hid (Bxs.start w [(41, #[.int .i64 1, .int .i64 m, .int .i64 e, .string t, .bool b, .int .i64 f]), (39, #[.int .i64 0, .int .i64 0])])
  simp only [allocAll] at B0
  go_enter Tryz.func228, Tryz.ntmps228
  go_wp2_with fail
  exact bodyPost_ret (v := .tuple #[.agg #[.int .i64 m, .int .i64 e], .int .i64 0]) (by simp [results, Tryz.f228, go_sem]) rfl ⟨rfl, ((Below.refl _ w).alloc (Nat.le_refl _) _).alloc (by simp) _⟩
end Go.Proofs.YtdmbppgogdkpdaaGreatDoor
