/-
  The law FuncsShapes: the walk (begun).
  A region that draws its order, by an invariant: what holds ahead of each operation that is ready, and behind it. No condition.
  A region that draws its order and holds allocations beside calls: three results and three boxes, whichever way they come. No condition.
  The law FuncsShapes: the walk. Condition: the table of powers of ten reads as the program lays it.
  The law FuncsShapes at every array that can be read. Condition: the table of powers of ten reads as the program lays it.
-/
import Derived.Test.YtdmbppgogdkpdaaGreatDoorS19
set_option linter.unusedSectionVars false
namespace Go.Proofs.YtdmbppgogdkpdaaGreatDoor
open Go.RowKit
def LawP (w : World) (e : Ending) (w' : World) : Prop := e = .returned (.bool true) ∧ Below w.heap.size w w'
set_option maxRecDepth 100000 in
set_option maxHeartbeats 1000000 in
theorem law_long (R C : Int) (A : Option Addr) (n ca : Nat) (w : World) (hn : 60 < n) :
    Calls Tryz.prog 4 #[.agg #[.int .i64 R, .int .i64 C, .slice A n ca]] w (LawP w) := by
  have HB := Lib.hid ((Below.refl w.heap.size w).alloc (Nat.le_refl _) (.cells #[.int .i64 R, .int .i64 C, .slice A n ca] 28))
  have BA := Lib.hid (Blk.new w 28 #[.int .i64 R, .int .i64 C, .slice A n ca])
  have hd : decide ((60 : Int) < (n : Int)) = true := decide_eq_true (by omega)
  go_enter Tryz.func4, Tryz.ntmps4
  go_wp2_with fail
  refine (AM.awake7 _).mono ?_
  rintro _ w1 ⟨rfl, B1⟩
  have BA1 := Lib.hid (BA.out.kept (B1.block _ BA.out.lt))
  have HB1 := Lib.hid (HB.out.trans (B1.mono HB.out.size))
  clear B1 BA HB
  have a0 := BA1.out.cell 0
  have a1 := BA1.out.cell 1
  have a2 := BA1.out.cell 2
  simp only [List.getElem?_toArray, List.getElem?_cons_zero, List.getElem?_cons_succ] at a0 a1 a2
  go_wp2_with fail
  go_ret
  exact ⟨rfl, HB1.out⟩
set_option maxRecDepth 100000 in
set_option maxHeartbeats 1000000 in
theorem law_wrong (R C : Int) (A : Option Addr) (n ca : Nat) (l : List Val) (w : World) (hm : n ≤ 60) (hA : ManyR Val.cs 6 w A l) (hn : l.length = n) (hf : ∀ v ∈ l, FitsV v) (hr : ¬ RightA R C l) :
    Calls Tryz.prog 4 #[.agg #[.int .i64 R, .int .i64 C, .slice A n ca]] w (LawP w) := by
  have HB := Lib.hid ((Below.refl w.heap.size w).alloc (Nat.le_refl _) (.cells #[.int .i64 R, .int .i64 C, .slice A n ca] 28))
  have BA := Lib.hid (Blk.new w 28 #[.int .i64 R, .int .i64 C, .slice A n ca])
  have hd : decide ((60 : Int) < (n : Int)) = false := decide_eq_false (by omega)
  have HR := Lib.hid hr
  have HRT := Lib.hid (fun W (h : ManyR Val.cs 6 W A l) => r09right_c R C A n ca l W h hn (by omega) hf)
  have HA := Lib.hid (hA.next HB.out)
  clear hA hn hf hr
  go_enter Tryz.func4, Tryz.ntmps4
  go_wp2_with fail
  refine (AM.awake7 _).mono ?_
  rintro _ w1 ⟨rfl, B1⟩
  have BA1 := Lib.hid (BA.out.kept (B1.block _ BA.out.lt))
  have HB1 := Lib.hid (HB.out.trans (B1.mono HB.out.size))
  have HA1 := Lib.hid (HA.out.next B1)
  clear B1 BA HB HA
  have a0 := BA1.out.cell 0
  have a1 := BA1.out.cell 1
  have a2 := BA1.out.cell 2
  simp only [List.getElem?_toArray, List.getElem?_cons_zero, List.getElem?_cons_succ] at a0 a1 a2
  go_wp2_with fail
  refine (HRT.out w1 HA1.out).mono ?_
  rintro y w2 ⟨b1, rfl, r1, B1⟩
  obtain rfl : b1 = false := by
    cases b1
    · rfl
    · exact absurd (r1.1 rfl) HR.out
  have HB2 := Lib.hid (HB1.out.trans (B1.mono HB1.out.size))
  clear B1 r1 a0 a1 a2 BA1 HB1 HA1
  go_wp2_with fail
  go_ret
  exact ⟨rfl, HB2.out⟩
end Go.Proofs.YtdmbppgogdkpdaaGreatDoor
namespace Go.Proofs.YtdmbppgogdkpdaaGreatDoor
open Go.RowKit
theorem any_inv {P : Program} {md : Region.Mode} {ops : Array Oper} {Q : Exit → Act → World → Prop} (I : Nat → Array Bool → Act → World → Prop)
    (h0 : ∀ l a w, I 0 l a w → Region.ready md ops l = [] ∧ Q .normal a w)
    (h1 : ∀ f l a w, I (f + 1) l a w → (Region.ready md ops l = [] → Q .normal a w) ∧ ∀ i ∈ Region.ready md ops l, wpOp P ops Q i (fun a' w' => I f (l.setIfInBounds i true) a' w') a w) :
    ∀ f l a w, I f l a w → wpAny P md ops Q f l a w
  | 0, l, a, w, h => h0 l a w h
  | f + 1, l, a, w, h => ⟨(h1 f l a w h).1, fun i hi => wpOp_mono (fun a' w' h' => any_inv I h0 h1 f _ a' w' h') ((h1 f l a w h).2 i hi)⟩
theorem region_inv {P : Program} {id : Nat} {Q : Exit → Act → World → Prop} {a : Act} {w : World} {l : List Oper} (hm : P.follows .mixedOrders = true) (I : Nat → Array Bool → Act → World → Prop)
    (h0 : ∀ s a w, I 0 s a w → Region.ready .any l.toArray s = [] ∧ Q .normal a w)
    (h1 : ∀ f s a w, I (f + 1) s a w → (Region.ready .any l.toArray s = [] → Q .normal a w) ∧ ∀ i ∈ Region.ready .any l.toArray s, wpOp P l.toArray Q i (fun a' w' => I f (s.setIfInBounds i true) a' w') a w)
    (hs : I l.toArray.size (Array.replicate l.toArray.size false) a w.drew) : (Code.region id l.toArray true).wp P Q a w :=
  wp_region_any hm (any_inv I h0 h1 _ _ _ _ hs)
end Go.Proofs.YtdmbppgogdkpdaaGreatDoor
namespace Go.Proofs.YtdmbppgogdkpdaaGreatDoor
open Go.RowKit
theorem anyN_inv {P : Program} {md : Region.Mode} {ops : Array Oper} {Q : Exit → Act → World → Prop} {S : World → Prop} {need : Nat → Bool} {g : Nat} (I : Nat → Array Bool → Act → World → Prop)
    (h0 : ∀ l a w, I 0 l a w → wpAnyN P md ops Q S need g l a w)
    (h1 : ∀ f l a w, I (f + 1) l a w → Region.ready md ops l ≠ [] ∧ ∀ i ∈ Region.ready md ops l, wpOp P ops Q i (fun a' w' => (need i = true → S w') ∧ I f (l.setIfInBounds i true) a' w') a w) :
    ∀ f l a w, I f l a w → wpAnyN P md ops Q S need (g + f) l a w
  | 0, l, a, w, h => h0 l a w h
  | f + 1, l, a, w, h => ⟨fun e => absurd e (h1 f l a w h).1, fun i hi => wpOp_mono (fun a' w' h' => ⟨h'.1, anyN_inv I h0 h1 f _ a' w' h'.2⟩) ((h1 f l a w h).2 i hi)⟩
theorem wpOp_ofL {P : Program} {l : List Oper} {Q : Exit → Act → World → Prop} {K : Act → World → Prop} {a : Act} {w : World} {listed : Array Bool} (i : Nat) (hi : i ∈ Region.ready .any l.toArray listed) (h : wpList P l.toArray (Exit.then K Q) ((l.drop i).take 1) a w) : wpOp P l.toArray Q i K a w := by
  obtain ⟨o, ho, e⟩ := drop_take_one hi
  rw [e] at h
  exact wpOp_of_list ho h
/-- The listed ones of the law's seventh region behind its reads. -/
def L7 (b2 b5 b8 b9 b10 b11 : Bool) : Array Bool := #[true, true, b2, true, true, b5, true, true, b8, b9, b10, b11, false, false, false]
def ok7 (ops : Array Oper) : Bool := [true, false].all fun b2 => [true, false].all fun b5 => [true, false].all fun b8 => [true, false].all fun b9 => [true, false].all fun b10 => [true, false].all fun b11 =>
  (b5 && !b2) || (b8 && !b5) || (b2 && b5 && b8 && b9 && b10 && b11) || (!(Region.ready .any ops (L7 b2 b5 b8 b9 b10 b11)).isEmpty && (Region.ready .any ops (L7 b2 b5 b8 b9 b10 b11)).all fun i =>
    (i == 2 && !b2) || (i == 5 && !b5 && b2) || (i == 8 && !b8 && b5) || (i == 9 && !b9) || (i == 10 && !b10) || (i == 11 && !b11))
theorem ok7_spec {ops : Array Oper} (h : ok7 ops = true) (b2 b5 b8 b9 b10 b11 : Bool) (h5 : b5 = true → b2 = true) (h8 : b8 = true → b5 = true) (hf : ¬ (b2 = true ∧ b5 = true ∧ b8 = true ∧ b9 = true ∧ b10 = true ∧ b11 = true)) :
    Region.ready .any ops (L7 b2 b5 b8 b9 b10 b11) ≠ [] ∧ ∀ i ∈ Region.ready .any ops (L7 b2 b5 b8 b9 b10 b11), (i = 2 ∧ b2 = false) ∨ (i = 5 ∧ b5 = false ∧ b2 = true) ∨ (i = 8 ∧ b8 = false ∧ b5 = true) ∨ (i = 9 ∧ b9 = false) ∨ (i = 10 ∧ b10 = false) ∨ (i = 11 ∧ b11 = false) := by
  have hm : ∀ b : Bool, b ∈ [true, false] := by decide
  have k := List.all_eq_true.1 (List.all_eq_true.1 (List.all_eq_true.1 (List.all_eq_true.1 (List.all_eq_true.1 (List.all_eq_true.1 h b2 (hm _)) b5 (hm _)) b8 (hm _)) b9 (hm _)) b10 (hm _)) b11 (hm _)
  generalize Region.ready .any ops (L7 b2 b5 b8 b9 b10 b11) = rs at *
  simp only [Bool.or_eq_true, Bool.and_eq_true, Bool.not_eq_true', List.all_eq_true, beq_iff_eq, List.isEmpty_eq_false_iff] at k
  rcases k with ((k | k) | k) | k
  · rw [h5 k.1] at k; cases k.2
  · rw [h8 k.1] at k; cases k.2
  · exact absurd ⟨k.1.1.1.1.1, k.1.1.1.1.2, k.1.1.1.2, k.1.1.2, k.1.2, k.2⟩ hf
  · refine ⟨k.1, fun i hi => ?_⟩
    rcases k.2 i hi with ((((h | h) | h) | h) | h) | h
    · exact .inl h
    · exact .inr (.inl ⟨h.1.1, h.1.2, h.2⟩)
    · exact .inr (.inr (.inl ⟨h.1.1, h.1.2, h.2⟩))
    · exact .inr (.inr (.inr (.inl h)))
    · exact .inr (.inr (.inr (.inr (.inl h))))
    · exact .inr (.inr (.inr (.inr (.inr h))))
/-- A result that lies in a block of nobody's; a box that lies in a block of its own. -/
def ResV (own : Nat → Nat) (w0 w : World) (r c : Nat) (l : List Val) (u : Value) : Prop := ∃ A n ca, u = .agg #[.int .i64 r, .int .i64 c, .slice A n ca] ∧ l.length = n ∧ ManyR Val.cs 6 w A l ∧ ∀ a, A = some a → w0.heap.size ≤ a.block ∧ a.block < w.heap.size ∧ own a.block = 0
def BoxV (own : Nat → Nat) (w0 w : World) (t : Nat) (u : Value) : Prop := ∃ p, u = .pointer (some ⟨p, 0, none⟩) ∧ w0.heap.size ≤ p ∧ own p = t ∧ Blk w p 28 #[.int .i64 0, .int .i64 0, .slice none 0 0]
def tagN (own : Nat → Nat) (w : World) (t : Nat) : Nat → Nat := fun k => if k < w.heap.size then own k else t
theorem tagN_old {own : Nat → Nat} {w : World} {t k : Nat} (h : k < w.heap.size) : tagN own w t k = own k := if_pos h
theorem tagN_new {own : Nat → Nat} {w : World} {t k : Nat} (h : w.heap.size ≤ k) : tagN own w t k = t := if_neg (by omega)
theorem ResV.next {own : Nat → Nat} {w0 w w' : World} {r c : Nat} {l : List Val} {u : Value} {t : Nat} (h : ResV own w0 w r c l u) (hb : Below w.heap.size w w') : ResV (tagN own w t) w0 w' r c l u := by
  obtain ⟨A, n, ca, e, h1, h2, h3⟩ := h
  exact ⟨A, n, ca, e, h1, h2.next hb, fun a ha => ⟨(h3 a ha).1, Nat.lt_of_lt_of_le (h3 a ha).2.1 hb.size, by rw [tagN_old (h3 a ha).2.1]; exact (h3 a ha).2.2⟩⟩
theorem BoxV.next {own : Nat → Nat} {w0 w w' : World} {t' : Nat} {u : Value} {t : Nat} (h : BoxV own w0 w t' u) (hb : Below w.heap.size w w') : BoxV (tagN own w t) w0 w' t' u := by
  obtain ⟨p, e, h1, h2, h3⟩ := h
  exact ⟨p, e, h1, by rw [tagN_old h3.lt]; exact h2, h3.kept (hb.block _ h3.lt)⟩
theorem ResV.new {own : Nat → Nat} {w0 w w' : World} {r c : Nat} {l : List Val} {u : Value} (hl : l ≠ []) (h0 : w0.heap.size ≤ w.heap.size) (h : RetA w r c l (.returned u) w') : ResV (tagN own w 0) w0 w' r c l u := by
  obtain ⟨A, n, ca, e, h1, h2, h3, h4⟩ := h
  cases e
  refine ⟨A, n, ca, rfl, h1, h2, fun a ha => ?_⟩
  have h5 := h3 a ha
  obtain ⟨b, o, e, hb, _⟩ := h2 hl
  rw [ha] at e
  cases e
  exact ⟨Nat.le_trans h0 h5, hb, tagN_new h5⟩
theorem BoxV.new {own : Nat → Nat} {w0 w : World} {t : Nat} (h0 : w0.heap.size ≤ w.heap.size) : BoxV (tagN own w t) w0 (w.alloc (.cells #[.int .i64 0, .int .i64 0, .slice none 0 0] 28)) t (.pointer (some ⟨w.heap.size, 0, none⟩)) :=
  ⟨_, rfl, h0, tagN_new (Nat.le_refl _), Blk.new w 28 #[.int .i64 0, .int .i64 0, .slice none 0 0]⟩
structure Fc (own : Nat → Nat) (w0 : World) (R C n : Nat) (l : List Val) (b2 b5 b8 b9 b10 b11 : Bool) (u24 u27 u30 u5 u6 u7 : Value) (w : World) : Prop where
  below : Below w0.heap.size w0 w
  r2 : b2 = true → ResV own w0 w C R (turnL R C l) u24
  r5 : b5 = true → ResV own w0 w 1 n l u27
  r8 : b8 = true → ResV own w0 w n 1 l u30
  x9 : b9 = true → BoxV own w0 w 1 u5
  x10 : b10 = true → BoxV own w0 w 2 u6
  x11 : b11 = true → BoxV own w0 w 3 u7
section
variable {own : Nat → Nat} {w0 w w' : World} {R C n : Nat} {l : List Val} {b2 b5 b8 b9 b10 b11 : Bool} {u24 u27 u30 u5 u6 u7 u : Value}
theorem Fc.next (h : Fc own w0 R C n l b2 b5 b8 b9 b10 b11 u24 u27 u30 u5 u6 u7 w) (hb : Below w.heap.size w w') (t : Nat) : Fc (tagN own w t) w0 R C n l b2 b5 b8 b9 b10 b11 u24 u27 u30 u5 u6 u7 w' :=
  ⟨h.below.trans (hb.mono h.below.size), fun e => (h.r2 e).next hb, fun e => (h.r5 e).next hb, fun e => (h.r8 e).next hb, fun e => (h.x9 e).next hb, fun e => (h.x10 e).next hb, fun e => (h.x11 e).next hb⟩
theorem Fc.do2 (h : Fc own w0 R C n l false b5 b8 b9 b10 b11 u24 u27 u30 u5 u6 u7 w) (hl : turnL R C l ≠ []) (k : RetA w C R (turnL R C l) (.returned u) w') : Fc (tagN own w 0) w0 R C n l true b5 b8 b9 b10 b11 u u27 u30 u5 u6 u7 w' := by
  have hb : Below w.heap.size w w' := by obtain ⟨_, _, _, _, _, _, _, hb⟩ := k; exact hb
  have g := h.next hb 0
  exact ⟨g.below, fun _ => .new hl h.below.size k, g.r5, g.r8, g.x9, g.x10, g.x11⟩
theorem Fc.do5 (h : Fc own w0 R C n l b2 false b8 b9 b10 b11 u24 u27 u30 u5 u6 u7 w) (hl : l ≠ []) (k : RetA w 1 n l (.returned u) w') : Fc (tagN own w 0) w0 R C n l b2 true b8 b9 b10 b11 u24 u u30 u5 u6 u7 w' := by
  have hb : Below w.heap.size w w' := by obtain ⟨_, _, _, _, _, _, _, hb⟩ := k; exact hb
  have g := h.next hb 0
  exact ⟨g.below, g.r2, fun _ => .new hl h.below.size k, g.r8, g.x9, g.x10, g.x11⟩
theorem Fc.do8 (h : Fc own w0 R C n l b2 b5 false b9 b10 b11 u24 u27 u30 u5 u6 u7 w) (hl : l ≠ []) (k : RetA w n 1 l (.returned u) w') : Fc (tagN own w 0) w0 R C n l b2 b5 true b9 b10 b11 u24 u27 u u5 u6 u7 w' := by
  have hb : Below w.heap.size w w' := by obtain ⟨_, _, _, _, _, _, _, hb⟩ := k; exact hb
  have g := h.next hb 0
  exact ⟨g.below, g.r2, g.r5, fun _ => .new hl h.below.size k, g.x9, g.x10, g.x11⟩
theorem Fc.do9 (h : Fc own w0 R C n l b2 b5 b8 false b10 b11 u24 u27 u30 u5 u6 u7 w) : Fc (tagN own w 1) w0 R C n l b2 b5 b8 true b10 b11 u24 u27 u30 (.pointer (some ⟨w.heap.size, 0, none⟩)) u6 u7 (w.alloc (.cells #[.int .i64 0, .int .i64 0, .slice none 0 0] 28)) := by
  have g := h.next ((Below.refl _ w).alloc (Nat.le_refl _) (.cells #[.int .i64 0, .int .i64 0, .slice none 0 0] 28)) 1
  exact ⟨g.below, g.r2, g.r5, g.r8, fun _ => .new h.below.size, g.x10, g.x11⟩
theorem Fc.do10 (h : Fc own w0 R C n l b2 b5 b8 b9 false b11 u24 u27 u30 u5 u6 u7 w) : Fc (tagN own w 2) w0 R C n l b2 b5 b8 b9 true b11 u24 u27 u30 u5 (.pointer (some ⟨w.heap.size, 0, none⟩)) u7 (w.alloc (.cells #[.int .i64 0, .int .i64 0, .slice none 0 0] 28)) := by
  have g := h.next ((Below.refl _ w).alloc (Nat.le_refl _) (.cells #[.int .i64 0, .int .i64 0, .slice none 0 0] 28)) 2
  exact ⟨g.below, g.r2, g.r5, g.r8, g.x9, fun _ => .new h.below.size, g.x11⟩
theorem Fc.do11 (h : Fc own w0 R C n l b2 b5 b8 b9 b10 false u24 u27 u30 u5 u6 u7 w) : Fc (tagN own w 3) w0 R C n l b2 b5 b8 b9 b10 true u24 u27 u30 u5 u6 (.pointer (some ⟨w.heap.size, 0, none⟩)) (w.alloc (.cells #[.int .i64 0, .int .i64 0, .slice none 0 0] 28)) := by
  have g := h.next ((Below.refl _ w).alloc (Nat.le_refl _) (.cells #[.int .i64 0, .int .i64 0, .slice none 0 0] 28)) 3
  exact ⟨g.below, g.r2, g.r5, g.r8, g.x9, g.x10, fun _ => .new h.below.size⟩
end
/-- What holds at each world behind the seventh region: the boxes of a, t, r, c, and the arrays that they hold. -/
structure LS (w0 : World) (bA bL p5 p6 p7 : Nat) (R C n ca : Nat) (A A1 A2 A3 : Option Addr) (n1 c1 n2 c2 n3 c3 : Nat) (l : List Val) (W : World) : Prop where
  below : Below w0.heap.size w0 W
  size : w0.heap.size ≤ bA
  pt : PowT W
  bl : Blk W bL 31 #[]
  ba : Blk W bA 28 #[.int .i64 R, .int .i64 C, .slice A n ca]
  b5 : Blk W p5 28 #[.int .i64 C, .int .i64 R, .slice A1 n1 c1]
  b6 : Blk W p6 28 #[.int .i64 (1 : Nat), .int .i64 n, .slice A2 n2 c2]
  b7 : Blk W p7 28 #[.int .i64 n, .int .i64 (1 : Nat), .slice A3 n3 c3]
  a0 : ArrR W R C A n l
  a1 : ArrR W C R A1 n1 (turnL R C l)
  a2 : ArrR W 1 n A2 n2 l
  a3 : ArrR W n 1 A3 n3 l
theorem LS.next {w0 W W' : World} {bA bL p5 p6 p7 : Nat} {R C n ca : Nat} {A A1 A2 A3 : Option Addr} {n1 c1 n2 c2 n3 c3 : Nat} {l : List Val} (h : LS w0 bA bL p5 p6 p7 R C n ca A A1 A2 A3 n1 c1 n2 c2 n3 c3 l W) (b : Below W.heap.size W W') : LS w0 bA bL p5 p6 p7 R C n ca A A1 A2 A3 n1 c1 n2 c2 n3 c3 l W' :=
  ⟨h.below.trans (b.mono h.below.size), h.size, h.pt.next b, h.bl.kept (b.block _ h.bl.lt), h.ba.kept (b.block _ h.ba.lt), h.b5.kept (b.block _ h.b5.lt), h.b6.kept (b.block _ h.b6.lt), h.b7.kept (b.block _ h.b7.lt), h.a0.next b, h.a1.next b, h.a2.next b, h.a3.next b⟩
theorem LS.cells {w0 W : World} {bA bL p5 p6 p7 : Nat} {R C n ca : Nat} {A A1 A2 A3 : Option Addr} {n1 c1 n2 c2 n3 c3 : Nat} {l : List Val} (h : LS w0 bA bL p5 p6 p7 R C n ca A A1 A2 A3 n1 c1 n2 c2 n3 c3 l W) :
    AllCells W [(⟨bA, 0, none⟩, .int .i64 R), (⟨bA, 1, none⟩, .int .i64 C), (⟨bA, 2, none⟩, .slice A n ca), (⟨p5, 0, none⟩, .int .i64 C), (⟨p5, 1, none⟩, .int .i64 R), (⟨p5, 2, none⟩, .slice A1 n1 c1), (⟨p6, 0, none⟩, .int .i64 (1 : Nat)), (⟨p6, 1, none⟩, .int .i64 n), (⟨p6, 2, none⟩, .slice A2 n2 c2), (⟨p7, 0, none⟩, .int .i64 n), (⟨p7, 1, none⟩, .int .i64 (1 : Nat)), (⟨p7, 2, none⟩, .slice A3 n3 c3)] :=
  ⟨h.ba.cell 0, h.ba.cell 1, h.ba.cell 2, h.b5.cell 0, h.b5.cell 1, h.b5.cell 2, h.b6.cell 0, h.b6.cell 1, h.b6.cell 2, h.b7.cell 0, h.b7.cell 1, h.b7.cell 2, trivial⟩
/-- The frame with the six slots that the region writes. -/
def F7 (a0 : Act) (u24 u27 u30 u5 u6 u7 : Value) : Act := (((((a0.put (some 24) u24).put (some 27) u27).put (some 30) u30).put (some 5) u5).put (some 6) u6).put (some 7) u7
def cnt7 (b2 b5 b8 b9 b10 b11 : Bool) : Nat := (!b2).toNat + (!b5).toNat + (!b8).toNat + (!b9).toNat + (!b10).toNat + (!b11).toNat
def I7 (a0 : Act) (V : World) (R C n : Nat) (lv : List Val) (f : Nat) (s : Array Bool) (a : Act) (W : World) : Prop :=
  ∃ (own : Nat → Nat) (b2 b5 b8 b9 b10 b11 : Bool) (u24 u27 u30 u5 u6 u7 : Value), s = L7 b2 b5 b8 b9 b10 b11 ∧ f = cnt7 b2 b5 b8 b9 b10 b11 ∧ (b5 = true → b2 = true) ∧ (b8 = true → b5 = true) ∧ a = F7 a0 u24 u27 u30 u5 u6 u7 ∧ Fc own V R C n lv b2 b5 b8 b9 b10 b11 u24 u27 u30 u5 u6 u7 W
theorem any7 {P : Program} {l : List Oper} {Q : Exit → Act → World → Prop} {S : World → Prop} {need : Nat → Bool} (a0 : Act) (V : World) (R C n : Nat) (lv : List Val) (hok : ok7 l.toArray = true) (hl : lv ≠ []) (hl2 : turnL R C lv ≠ [])
    (hS : ∀ W, Below V.heap.size V W → S W)
    (h2 : ∀ u24 u27 u30 u5 u6 u7 W K, Below V.heap.size V W → (∀ u W', RetA W C R (turnL R C lv) (.returned u) W' → K (F7 a0 u u27 u30 u5 u6 u7) W') → wpOp P l.toArray Q 2 K (F7 a0 u24 u27 u30 u5 u6 u7) W)
    (h5 : ∀ u24 u27 u30 u5 u6 u7 W K, Below V.heap.size V W → (∀ u W', RetA W 1 n lv (.returned u) W' → K (F7 a0 u24 u u30 u5 u6 u7) W') → wpOp P l.toArray Q 5 K (F7 a0 u24 u27 u30 u5 u6 u7) W)
    (h8 : ∀ u24 u27 u30 u5 u6 u7 W K, Below V.heap.size V W → (∀ u W', RetA W n 1 lv (.returned u) W' → K (F7 a0 u24 u27 u u5 u6 u7) W') → wpOp P l.toArray Q 8 K (F7 a0 u24 u27 u30 u5 u6 u7) W)
    (h9 : ∀ u24 u27 u30 u5 u6 u7 W K, K (F7 a0 u24 u27 u30 (.pointer (some ⟨W.heap.size, 0, none⟩)) u6 u7) (W.alloc (.cells #[.int .i64 0, .int .i64 0, .slice none 0 0] 28)) → wpOp P l.toArray Q 9 K (F7 a0 u24 u27 u30 u5 u6 u7) W)
    (h10 : ∀ u24 u27 u30 u5 u6 u7 W K, K (F7 a0 u24 u27 u30 u5 (.pointer (some ⟨W.heap.size, 0, none⟩)) u7) (W.alloc (.cells #[.int .i64 0, .int .i64 0, .slice none 0 0] 28)) → wpOp P l.toArray Q 10 K (F7 a0 u24 u27 u30 u5 u6 u7) W)
    (h11 : ∀ u24 u27 u30 u5 u6 u7 W K, K (F7 a0 u24 u27 u30 u5 u6 (.pointer (some ⟨W.heap.size, 0, none⟩))) (W.alloc (.cells #[.int .i64 0, .int .i64 0, .slice none 0 0] 28)) → wpOp P l.toArray Q 11 K (F7 a0 u24 u27 u30 u5 u6 u7) W)
    (hend : ∀ own u24 u27 u30 u5 u6 u7 W, Fc own V R C n lv true true true true true true u24 u27 u30 u5 u6 u7 W → wpAnyN P .any l.toArray Q S need 3 (L7 true true true true true true) (F7 a0 u24 u27 u30 u5 u6 u7) W)
    (hst : F7 a0 undef undef undef undef undef undef = a0) :
    wpAnyN P .any l.toArray Q S need 9 (L7 false false false false false false) a0 V := by
  refine anyN_inv (g := 3) (I7 a0 V R C n lv) ?_ ?_ 6 _ _ _ ⟨fun _ => 0, false, false, false, false, false, false, undef, undef, undef, undef, undef, undef, rfl, rfl, by simp, by simp, hst.symm, Below.refl _ _, by simp, by simp, by simp, by simp, by simp, by simp⟩
  · rintro s a W ⟨own, b2, b5, b8, b9, b10, b11, u24, u27, u30, u5, u6, u7, rfl, hf, k5, k8, rfl, hc⟩
    cases b2 <;> cases b5 <;> cases b8 <;> cases b9 <;> cases b10 <;> cases b11 <;> simp [cnt7] at hf
    exact hend own _ _ _ _ _ _ W hc
  · rintro f s a W ⟨own, b2, b5, b8, b9, b10, b11, u24, u27, u30, u5, u6, u7, rfl, hf, k5, k8, rfl, hc⟩
    have hno : ¬ (b2 = true ∧ b5 = true ∧ b8 = true ∧ b9 = true ∧ b10 = true ∧ b11 = true) := by
      rintro ⟨rfl, rfl, rfl, rfl, rfl, rfl⟩
      simp [cnt7] at hf
    obtain ⟨hne, hall⟩ := ok7_spec hok b2 b5 b8 b9 b10 b11 k5 k8 hno
    refine ⟨hne, fun i hi => ?_⟩
    have key := hall i hi
    clear hall hi hne hno
    rcases key with ⟨rfl, rfl⟩ | ⟨rfl, rfl, rfl⟩ | ⟨rfl, rfl, rfl⟩ | ⟨rfl, rfl⟩ | ⟨rfl, rfl⟩ | ⟨rfl, rfl⟩
    · refine h2 _ _ _ _ _ _ W _ hc.below fun u W' hr => ?_
      have hc2 := hc.do2 hl2 hr
      exact ⟨fun _ => hS _ hc2.below, _, true, b5, b8, b9, b10, b11, u, u27, u30, u5, u6, u7, rfl, by simp [cnt7] at hf ⊢; omega, by simp, k8, rfl, hc2⟩
    · refine h5 _ _ _ _ _ _ W _ hc.below fun u W' hr => ?_
      have hc2 := hc.do5 hl hr
      exact ⟨fun _ => hS _ hc2.below, _, true, true, b8, b9, b10, b11, u24, u, u30, u5, u6, u7, rfl, by simp [cnt7] at hf ⊢; omega, by simp, by simp, rfl, hc2⟩
    · refine h8 _ _ _ _ _ _ W _ hc.below fun u W' hr => ?_
      have hc2 := hc.do8 hl hr
      exact ⟨fun _ => hS _ hc2.below, _, b2, true, true, b9, b10, b11, u24, u27, u, u5, u6, u7, rfl, by simp [cnt7] at hf ⊢; omega, k5, by simp, rfl, hc2⟩
    · refine h9 _ _ _ _ _ _ W _ ?_
      have hc2 := hc.do9
      exact ⟨fun _ => hS _ hc2.below, _, b2, b5, b8, true, b10, b11, u24, u27, u30, _, u6, u7, rfl, by simp [cnt7] at hf ⊢; omega, k5, k8, rfl, hc2⟩
    · refine h10 _ _ _ _ _ _ W _ ?_
      have hc2 := hc.do10
      exact ⟨fun _ => hS _ hc2.below, _, b2, b5, b8, b9, true, b11, u24, u27, u30, u5, _, u7, rfl, by simp [cnt7] at hf ⊢; omega, k5, k8, rfl, hc2⟩
    · refine h11 _ _ _ _ _ _ W _ ?_
      have hc2 := hc.do11
      exact ⟨fun _ => hS _ hc2.below, _, b2, b5, b8, b9, b10, true, u24, u27, u30, u5, u6, _, rfl, by simp [cnt7] at hf ⊢; omega, k5, k8, rfl, hc2⟩
end Go.Proofs.YtdmbppgogdkpdaaGreatDoor
namespace Go.Proofs.YtdmbppgogdkpdaaGreatDoor
open Go.RowKit
theorem LS.cells8 {w0 W : World} {bA bL p5 p6 p7 p8 : Nat} {R C n ca : Nat} {A A1 A2 A3 X : Option Addr} {n1 c1 n2 c2 n3 c3 e : Nat} {l : List Val} (h : LS w0 bA bL p5 p6 p7 R C n ca A A1 A2 A3 n1 c1 n2 c2 n3 c3 l W) (b : Blk W p8 28 #[.int .i64 1, .int .i64 1, .slice X 1 e]) :
    AllCells W [(⟨bA, 0, none⟩, .int .i64 R), (⟨bA, 1, none⟩, .int .i64 C), (⟨bA, 2, none⟩, .slice A n ca), (⟨p5, 0, none⟩, .int .i64 C), (⟨p5, 1, none⟩, .int .i64 R), (⟨p5, 2, none⟩, .slice A1 n1 c1), (⟨p6, 0, none⟩, .int .i64 (1 : Nat)), (⟨p6, 1, none⟩, .int .i64 n), (⟨p6, 2, none⟩, .slice A2 n2 c2), (⟨p7, 0, none⟩, .int .i64 n), (⟨p7, 1, none⟩, .int .i64 (1 : Nat)), (⟨p7, 2, none⟩, .slice A3 n3 c3), (⟨p8, 0, none⟩, .int .i64 1), (⟨p8, 1, none⟩, .int .i64 1), (⟨p8, 2, none⟩, .slice X 1 e)] :=
  ⟨h.ba.cell 0, h.ba.cell 1, h.ba.cell 2, h.b5.cell 0, h.b5.cell 1, h.b5.cell 2, h.b6.cell 0, h.b6.cell 1, h.b6.cell 2, h.b7.cell 0, h.b7.cell 1, h.b7.cell 2, b.cell 0, b.cell 1, b.cell 2, trivial⟩
theorem LS.drew {w0 W : World} {bA bL p5 p6 p7 : Nat} {R C n ca : Nat} {A A1 A2 A3 : Option Addr} {n1 c1 n2 c2 n3 c3 : Nat} {l : List Val} (h : LS w0 bA bL p5 p6 p7 R C n ca A A1 A2 A3 n1 c1 n2 c2 n3 c3 l W) : LS w0 bA bL p5 p6 p7 R C n ca A A1 A2 A3 n1 c1 n2 c2 n3 c3 l W.drew := h.next (Below.refl _ _).drew
set_option maxRecDepth 100000 in
set_option maxHeartbeats 4000000 in
theorem law_right (R C : Nat) (A : Option Addr) (n ca : Nat) (l : List Val) (w : World) (hm : n ≤ 60) (h : ArrR w R C A n l) (htab : PowT w) :
    Calls Tryz.prog 4 #[.agg #[.int .i64 R, .int .i64 C, .slice A n ca]] w (LawP w) := by
  have HB := Lib.hid ((Below.refl w.heap.size w).alloc (Nat.le_refl _) (.cells #[.int .i64 R, .int .i64 C, .slice A n ca] 28))
  have BA := Lib.hid (Blk.new w 28 #[.int .i64 R, .int .i64 C, .slice A n ca])
  have hd : decide ((60 : Int) < (n : Int)) = false := decide_eq_false (by omega)
  have HR := Lib.hid h.right
  have HRT := Lib.hid (fun W (k : ManyR Val.cs 6 W A l) => r09right_c R C A n ca l W k h.len (by omega) h.fits)
  have HH := Lib.hid h
  have HPT := Lib.hid htab
  have HM := Lib.hid hm
  clear h htab hm
  go_enter Tryz.func4, Tryz.ntmps4
  go_wp2_with fail
  refine (AM.awake7 _).mono ?_
  rintro _ w1 ⟨rfl, B1⟩
  have BA1 := Lib.hid (BA.out.kept (B1.block _ BA.out.lt))
  have HB1 := Lib.hid (HB.out.trans (B1.mono HB.out.size))
  clear B1 BA HB
  have a0 := BA1.out.cell 0
  have a1 := BA1.out.cell 1
  have a2 := BA1.out.cell 2
  simp only [List.getElem?_toArray, List.getElem?_cons_zero, List.getElem?_cons_succ] at a0 a1 a2
  go_wp2_with fail
  refine (HRT.out w1 (HH.out.many.next HB1.out)).mono ?_
  rintro y w2 ⟨b1, rfl, r1, B1⟩
  obtain rfl : b1 = true := r1.2 HR.out
  have HB2 := Lib.hid (HB1.out.trans (B1.mono HB1.out.size))
  have BA2 := Lib.hid (BA1.out.kept (B1.block _ BA1.out.lt))
  clear B1 r1 a0 a1 a2 BA1 HB1
  have HB3 := Lib.hid (HB2.out.alloc HB2.out.size (.cells #[] 31))
  have BA3 := Lib.hid (BA2.out.alloc (.cells #[] 31))
  have BL3 := Lib.hid (Blk.new w2 31 #[])
  clear HB2 BA2
  go_wp2_with fail
  generalize w2.alloc (.cells #[] 31) = V at *
  generalize w2.heap.size = bL at *
  have HA3 := Lib.hid (HH.out.next HB3.out)
  have HT3 := Lib.hid (HPT.out.next HB3.out)
  have HCC : Hid (∀ W, Below V.heap.size V W → AllCells W [(⟨w.heap.size, 0, none⟩, .int .i64 R), (⟨w.heap.size, 1, none⟩, .int .i64 C), (⟨w.heap.size, 2, none⟩, .slice A n ca)]) := Lib.hid (fun W hW => by
    have B := BA3.out.kept (hW.block _ BA3.out.lt)
    exact ⟨B.cell 0, B.cell 1, B.cell 2, trivial⟩)
  have HC := HCC.out V.drew (Below.refl _ _).drew
  refine region_free _ [0, 1, 3, 4, 6, 7] 9 (by kernel_rfl) (by kernel_rfl) (by kernel_rfl) (by kernel_rfl) (by kernel_rfl) (fun _ _ _ _ _ h => h) HC ?_
  intro hne hu
  simp only [AllCells] at hu
  simp only [pick, List.take_succ_cons, List.take_zero, List.drop_succ_cons, List.drop_zero, List.cons_append, List.nil_append]
  repeat (go_big_quiet_step (fail))
  refine wpQuiet_nil ?_
  clear hne hu
  clear HC
  refine any7 _ _ R C n l (by kernel_rfl) HH.out.le2.2.2 ?_ (fun W hW => HCC.out W ((Below.refl _ V).drew.trans hW)) ?_ ?_ ?_ ?_ ?_ ?_ ?_ (by rfl)
  · have e := turnL_perm R C l (by have := HH.out.right.len; exact_mod_cast this.symm)
    intro e0
    rw [e0] at e
    exact HH.out.le2.2.2 e.symm.eq_nil
  · intro u24 u27 u30 u5 u6 u7 W K hW hK
    have HK := Lib.hid hK
    have hVW := (Below.refl _ V).drew.trans hW
    have HAsk := Lib.hid (askTranspose R C A n ca bL l W (BL3.out.kept (hVW.block _ BL3.out.lt)) (HA3.out.next hVW) (HT3.out.next hVW))
    clear hK hVW hW
    refine wpOp_of_list rfl ?_
    simp only [F7, Act.put, List.setIfInBounds_toArray, List.set_cons_succ, List.set_cons_zero]
    go_wp2_with fail
    refine HAsk.out.mono ?_
    rintro _ W' ⟨A9, n9, ca9, rfl, h1, h2, h3, h4⟩
    have k := HK.out _ W' ⟨A9, n9, ca9, rfl, h1, h2, h3, h4⟩
    clear h1 h2 h3 h4
    simp only [F7, Act.put, List.setIfInBounds_toArray, List.set_cons_succ, List.set_cons_zero] at k
    go_wp2_with fail
    exact k
  · intro u24 u27 u30 u5 u6 u7 W K hW hK
    have HK := Lib.hid hK
    have hVW := (Below.refl _ V).drew.trans hW
    have HAsk := Lib.hid (askTorow R C A n ca bL l W (BL3.out.kept (hVW.block _ BL3.out.lt)) (HA3.out.next hVW) (HT3.out.next hVW))
    clear hK hVW hW
    refine wpOp_of_list rfl ?_
    simp only [F7, Act.put, List.setIfInBounds_toArray, List.set_cons_succ, List.set_cons_zero]
    go_wp2_with fail
    refine HAsk.out.mono ?_
    rintro _ W' ⟨A9, n9, ca9, rfl, h1, h2, h3, h4⟩
    have k := HK.out _ W' ⟨A9, n9, ca9, rfl, h1, h2, h3, h4⟩
    clear h1 h2 h3 h4
    simp only [F7, Act.put, List.setIfInBounds_toArray, List.set_cons_succ, List.set_cons_zero] at k
    go_wp2_with fail
    exact k
  · intro u24 u27 u30 u5 u6 u7 W K hW hK
    have HK := Lib.hid hK
    have hVW := (Below.refl _ V).drew.trans hW
    have HAsk := Lib.hid (askTocol R C A n ca bL l W (BL3.out.kept (hVW.block _ BL3.out.lt)) (HA3.out.next hVW) (HT3.out.next hVW))
    clear hK hVW hW
    refine wpOp_of_list rfl ?_
    simp only [F7, Act.put, List.setIfInBounds_toArray, List.set_cons_succ, List.set_cons_zero]
    go_wp2_with fail
    refine HAsk.out.mono ?_
    rintro _ W' ⟨A9, n9, ca9, rfl, h1, h2, h3, h4⟩
    have k := HK.out _ W' ⟨A9, n9, ca9, rfl, h1, h2, h3, h4⟩
    clear h1 h2 h3 h4
    simp only [F7, Act.put, List.setIfInBounds_toArray, List.set_cons_succ, List.set_cons_zero] at k
    go_wp2_with fail
    exact k
  · intro u24 u27 u30 u5 u6 u7 W K k
    refine wpOp_of_list rfl ?_
    simp only [F7, Act.put, List.setIfInBounds_toArray, List.set_cons_succ, List.set_cons_zero] at k ⊢
    go_wp2_with fail
    exact k
  · intro u24 u27 u30 u5 u6 u7 W K k
    refine wpOp_of_list rfl ?_
    simp only [F7, Act.put, List.setIfInBounds_toArray, List.set_cons_succ, List.set_cons_zero] at k ⊢
    go_wp2_with fail
    exact k
  · intro u24 u27 u30 u5 u6 u7 W K k
    refine wpOp_of_list rfl ?_
    simp only [F7, Act.put, List.setIfInBounds_toArray, List.set_cons_succ, List.set_cons_zero] at k ⊢
    go_wp2_with fail
    exact k
  intro own u24 u27 u30 u5 u6 u7 W hc
  obtain ⟨A1, n1, c1, rfl, l1, m1, k1⟩ := hc.r2 rfl
  obtain ⟨A2, n2, c2, rfl, l2, m2, k2⟩ := hc.r5 rfl
  obtain ⟨A3, n3, c3, rfl, l3, m3, k3⟩ := hc.r8 rfl
  obtain ⟨p5, rfl, g5, t5, B5⟩ := hc.x9 rfl
  obtain ⟨p6, rfl, g6, t6, B6⟩ := hc.x10 rfl
  obtain ⟨p7, rfl, g7, t7, B7⟩ := hc.x11 rfl
  have hVW : Below V.heap.size V W := (Below.refl _ V).drew.trans hc.below
  have G5 := Lib.hid (show V.heap.size ≤ p5 from g5)
  have G6 := Lib.hid (show V.heap.size ≤ p6 from g6)
  have G7 := Lib.hid (show V.heap.size ≤ p7 from g7)
  have N56 := Lib.hid (show p5 ≠ p6 from fun e => by rw [e, t6] at t5; omega)
  have N57 := Lib.hid (show p5 ≠ p7 from fun e => by rw [e, t7] at t5; omega)
  have N67 := Lib.hid (show p6 ≠ p7 from fun e => by rw [e, t7] at t6; omega)
  have K1 : ∀ p, 0 < own p → ∀ a, A1 = some a → a.block ≠ p := fun p hp a ha e => by have := (k1 a ha).2.2; rw [e] at this; omega
  have K2 : ∀ p, 0 < own p → ∀ a, A2 = some a → a.block ≠ p := fun p hp a ha e => by have := (k2 a ha).2.2; rw [e] at this; omega
  have K3 : ∀ p, 0 < own p → ∀ a, A3 = some a → a.block ≠ p := fun p hp a ha e => by have := (k3 a ha).2.2; rw [e] at this; omega
  have M1 := Lib.hid (fun (u v x u' v' x' u'' v'' x'' : Value) => manyR_put3 (manyR_put3 (manyR_put3 m1 (K1 p5 (by omega)) u v x) (K1 p6 (by omega)) u' v' x') (K1 p7 (by omega)) u'' v'' x'')
  have M2 := Lib.hid (fun (u v x u' v' x' u'' v'' x'' : Value) => manyR_put3 (manyR_put3 (manyR_put3 m2 (K2 p5 (by omega)) u v x) (K2 p6 (by omega)) u' v' x') (K2 p7 (by omega)) u'' v'' x'')
  have M3 := Lib.hid (fun (u v x u' v' x' u'' v'' x'' : Value) => manyR_put3 (manyR_put3 (manyR_put3 m3 (K3 p5 (by omega)) u v x) (K3 p6 (by omega)) u' v' x') (K3 p7 (by omega)) u'' v'' x'')
  have BV0 := Lib.hid hVW
  have B5 := Lib.hid B5
  have B6 := Lib.hid B6
  have B7 := Lib.hid B7
  have L1 := Lib.hid l1
  have L2 := Lib.hid l2
  have L3 := Lib.hid l3
  clear hVW hc m1 m2 m3 K1 K2 K3 k1 k2 k3 t5 t6 t7 g5 g6 g7 l1 l2 l3
  simp only [F7, Act.put, List.setIfInBounds_toArray, List.set_cons_succ, List.set_cons_zero]
  refine anyN_oneL 12 (by kernel_rfl) ?_
  simp only [List.take_succ_cons, List.take_zero, List.drop_succ_cons, List.drop_zero]
  have d0 := B5.out.cell 0
  have d1 := B5.out.cell 1
  have d2 := B5.out.cell 2
  simp only [List.getElem?_toArray, List.getElem?_cons_zero, List.getElem?_cons_succ] at d0 d1 d2
  have f0 := B5.out.frozen 0
  have f1 := B5.out.frozen 1
  have f2 := B5.out.frozen 2
  have lX := B5.out.lt
  go_wp2_with fail
  change (_ → AllCells (put3 W p5 (.int .i64 C) (.int .i64 R) (.slice A1 n1 c1)) _) ∧ wpAnyN _ _ _ _ _ _ _ _ _ (put3 W p5 (.int .i64 C) (.int .i64 R) (.slice A1 n1 c1))
  clear d0 d1 d2 f0 f1 f2 lX
  have B51 := Lib.hid (blk_put3 B5.out (.int .i64 C) (.int .i64 R) (.slice A1 n1 c1))
  have B61 := Lib.hid (blk_put3far B6.out N56.out.symm (.int .i64 C) (.int .i64 R) (.slice A1 n1 c1))
  have B71 := Lib.hid (blk_put3far B7.out N57.out.symm (.int .i64 C) (.int .i64 R) (.slice A1 n1 c1))
  have BV1 := Lib.hid (below_put3 BV0.out G5.out (.int .i64 C) (.int .i64 R) (.slice A1 n1 c1))
  have M11 := Lib.hid (M1.out (.int .i64 C) (.int .i64 R) (.slice A1 n1 c1))
  have M21 := Lib.hid (M2.out (.int .i64 C) (.int .i64 R) (.slice A1 n1 c1))
  have M31 := Lib.hid (M3.out (.int .i64 C) (.int .i64 R) (.slice A1 n1 c1))
  clear B5 B6 B7 BV0 M1 M2 M3
  generalize put3 W p5 (.int .i64 C) (.int .i64 R) (.slice A1 n1 c1) = W1 at *
  refine And.intro (fun _ => HCC.out W1 BV1.out) ?_
  refine anyN_oneL 13 (by kernel_rfl) ?_
  simp only [List.take_succ_cons, List.take_zero, List.drop_succ_cons, List.drop_zero]
  have d0 := B61.out.cell 0
  have d1 := B61.out.cell 1
  have d2 := B61.out.cell 2
  simp only [List.getElem?_toArray, List.getElem?_cons_zero, List.getElem?_cons_succ] at d0 d1 d2
  have f0 := B61.out.frozen 0
  have f1 := B61.out.frozen 1
  have f2 := B61.out.frozen 2
  have lX := B61.out.lt
  go_wp2_with fail
  change (_ → AllCells (put3 W1 p6 (.int .i64 (1 : Nat)) (.int .i64 n) (.slice A2 n2 c2)) _) ∧ wpAnyN _ _ _ _ _ _ _ _ _ (put3 W1 p6 (.int .i64 (1 : Nat)) (.int .i64 n) (.slice A2 n2 c2))
  clear d0 d1 d2 f0 f1 f2 lX
  have B62 := Lib.hid (blk_put3 B61.out (.int .i64 (1 : Nat)) (.int .i64 n) (.slice A2 n2 c2))
  have B52 := Lib.hid (blk_put3far B51.out N56.out (.int .i64 (1 : Nat)) (.int .i64 n) (.slice A2 n2 c2))
  have B72 := Lib.hid (blk_put3far B71.out N67.out.symm (.int .i64 (1 : Nat)) (.int .i64 n) (.slice A2 n2 c2))
  have BV2 := Lib.hid (below_put3 BV1.out G6.out (.int .i64 (1 : Nat)) (.int .i64 n) (.slice A2 n2 c2))
  have M12 := Lib.hid (M11.out (.int .i64 (1 : Nat)) (.int .i64 n) (.slice A2 n2 c2))
  have M22 := Lib.hid (M21.out (.int .i64 (1 : Nat)) (.int .i64 n) (.slice A2 n2 c2))
  have M32 := Lib.hid (M31.out (.int .i64 (1 : Nat)) (.int .i64 n) (.slice A2 n2 c2))
  clear B51 B61 B71 BV1 M11 M21 M31
  generalize put3 W1 p6 (.int .i64 (1 : Nat)) (.int .i64 n) (.slice A2 n2 c2) = W2 at *
  refine And.intro (fun _ => HCC.out W2 BV2.out) ?_
  refine anyN_oneL 14 (by kernel_rfl) ?_
  simp only [List.take_succ_cons, List.take_zero, List.drop_succ_cons, List.drop_zero]
  have d0 := B72.out.cell 0
  have d1 := B72.out.cell 1
  have d2 := B72.out.cell 2
  simp only [List.getElem?_toArray, List.getElem?_cons_zero, List.getElem?_cons_succ] at d0 d1 d2
  have f0 := B72.out.frozen 0
  have f1 := B72.out.frozen 1
  have f2 := B72.out.frozen 2
  have lX := B72.out.lt
  go_wp2_with fail
  change (_ → AllCells (put3 W2 p7 (.int .i64 n) (.int .i64 (1 : Nat)) (.slice A3 n3 c3)) _) ∧ wpAnyN _ _ _ _ _ _ _ _ _ (put3 W2 p7 (.int .i64 n) (.int .i64 (1 : Nat)) (.slice A3 n3 c3))
  clear d0 d1 d2 f0 f1 f2 lX
  have B73 := Lib.hid (blk_put3 B72.out (.int .i64 n) (.int .i64 (1 : Nat)) (.slice A3 n3 c3))
  have B53 := Lib.hid (blk_put3far B52.out N57.out (.int .i64 n) (.int .i64 (1 : Nat)) (.slice A3 n3 c3))
  have B63 := Lib.hid (blk_put3far B62.out N67.out (.int .i64 n) (.int .i64 (1 : Nat)) (.slice A3 n3 c3))
  have BV3 := Lib.hid (below_put3 BV2.out G7.out (.int .i64 n) (.int .i64 (1 : Nat)) (.slice A3 n3 c3))
  have M13 := Lib.hid (M12.out (.int .i64 n) (.int .i64 (1 : Nat)) (.slice A3 n3 c3))
  have M23 := Lib.hid (M22.out (.int .i64 n) (.int .i64 (1 : Nat)) (.slice A3 n3 c3))
  have M33 := Lib.hid (M32.out (.int .i64 n) (.int .i64 (1 : Nat)) (.slice A3 n3 c3))
  clear B52 B62 B72 BV2 M12 M22 M32
  generalize put3 W2 p7 (.int .i64 n) (.int .i64 (1 : Nat)) (.slice A3 n3 c3) = W3 at *
  refine And.intro (fun _ => HCC.out W3 BV3.out) ?_
  refine ⟨by kernel_rfl, ?_⟩
  have HS := Lib.hid (show LS w w.heap.size bL p5 p6 p7 R C n ca A A1 A2 A3 n1 c1 n2 c2 n3 c3 l W3 from
    ⟨HB3.out.trans (BV3.out.mono HB3.out.size), Nat.le_refl _, HT3.out.next BV3.out, BL3.out.kept (BV3.out.block _ BL3.out.lt), BA3.out.kept (BV3.out.block _ BA3.out.lt), B53.out, B63.out, B73.out, HA3.out.next BV3.out, arr_turn HA3.out M13.out L1.out, arr_row HA3.out M23.out L2.out, arr_col HA3.out M33.out L3.out⟩)
  clear HB3 BV3 HT3 BL3 BA3 B53 B63 B73 HA3 M13 M23 M33 L1 L2 L3 G5 G6 G7 N56 N57 N67 HCC HRT HPT
  clear hd HH HM
  go_wp2_with fail
  have TW := Lib.hid (turnL_twice R C l (by have := HS.out.a0.right.len; exact_mod_cast this.symm))
  have TR := Lib.hid (turnL_row n l HS.out.a0.len)
  have TC := Lib.hid (fun p => turnL_count R C l (by have := HS.out.a0.right.len; exact_mod_cast this.symm) p)
  have S0 := Lib.hid HS.out.drew
  clear HS
  have HC := S0.out.cells
  refine region_free _ [0, 1, 3, 4] 30 (by kernel_rfl) (by kernel_rfl) (by kernel_rfl) (by kernel_rfl) (by kernel_rfl) (fun _ _ _ _ _ h => h) HC ?_
  intro hne hu
  simp only [AllCells] at hu
  simp only [pick, List.take_succ_cons, List.take_zero, List.drop_succ_cons, List.drop_zero, List.cons_append, List.nil_append]
  repeat (go_big_quiet_step (fail))
  refine wpQuiet_nil ?_
  clear hne hu
  clear HC
  refine anyN_oneL 2 (by kernel_rfl) ?_
  simp only [List.take_succ_cons, List.take_zero, List.drop_succ_cons, List.drop_zero]
  go_wp2_with fail
  refine (askRows C R A1 n1 c1 bL (turnL R C l) _ S0.out.bl S0.out.a1 S0.out.pt).mono ?_
  rintro _ W9 ⟨X1, m1, e1, rfl, N8, M8, -, hb9⟩
  have S1 := Lib.hid (S0.out.next hb9)
  have M1 := Lib.hid M8
  have N1 := Lib.hid N8
  clear M8 N8 hb9 S0
  go_wp2_with fail
  refine And.intro (fun _ => S1.out.cells) ?_
  refine anyN_oneL 5 (by kernel_rfl) ?_
  simp only [List.take_succ_cons, List.take_zero, List.drop_succ_cons, List.drop_zero]
  go_wp2_with fail
  refine (askColumns R C A n ca bL l _ S1.out.bl S1.out.a0 S1.out.pt).mono ?_
  rintro _ W9 ⟨X2, m2, e2, rfl, N8, M8, -, hb9⟩
  have S2 := Lib.hid (S1.out.next hb9)
  have M2 := Lib.hid M8
  have N2 := Lib.hid N8
  have M1' := Lib.hid (M1.out.next hb9)
  clear M8 N8 hb9 S1 M1
  go_wp2_with fail
  refine And.intro (fun _ => S2.out.cells) ?_
  refine anyN_oneL 6 (by kernel_rfl) ?_
  simp only [List.take_succ_cons, List.take_zero, List.drop_succ_cons, List.drop_zero]
  go_wp2_with fail
  refine (same_c 1 1 1 1 X1 X2 m1 e1 m2 e2 _ _ _ M1'.out M2.out N1.out N2.out (by have := N1.out; simp at this; omega)).mono ?_
  rintro _ W9 ⟨b9, rfl, r9, hb9⟩
  obtain rfl : b9 = true := r9.2 ⟨rfl, rfl, rfl⟩
  have S3 := Lib.hid (S2.out.next hb9)
  clear r9 hb9 S2
  go_wp2_with fail
  refine And.intro (fun _ => S3.out.cells) ?_
  clear M1' M2 N1 N2
  refine anyN_more [7, 8, 9, 10, 12, 13] 21 (by kernel_rfl) (by kernel_rfl) (by kernel_rfl) (by kernel_rfl) (fun _ _ _ _ _ h => h) S3.out.cells ?_
  intro hne hu
  simp only [AllCells] at hu
  simp only [pick, List.take_succ_cons, List.take_zero, List.drop_succ_cons, List.drop_zero, List.cons_append, List.nil_append]
  repeat (go_big_quiet_step (fail))
  refine wpQuiet_nil ?_
  clear hne hu
  refine anyN_oneL 11 (by kernel_rfl) ?_
  simp only [List.take_succ_cons, List.take_zero, List.drop_succ_cons, List.drop_zero]
  go_wp2_with fail
  refine (askColumns C R A1 n1 c1 bL (turnL R C l) _ S3.out.bl S3.out.a1 S3.out.pt).mono ?_
  rintro _ W9 ⟨X1, m1, e1, rfl, N8, M8, -, hb9⟩
  have S4 := Lib.hid (S3.out.next hb9)
  have M1 := Lib.hid M8
  have N1 := Lib.hid N8
  clear M8 N8 hb9 S3
  go_wp2_with fail
  refine And.intro (fun _ => S4.out.cells) ?_
  refine anyN_oneL 14 (by kernel_rfl) ?_
  simp only [List.take_succ_cons, List.take_zero, List.drop_succ_cons, List.drop_zero]
  go_wp2_with fail
  refine (askRows R C A n ca bL l _ S4.out.bl S4.out.a0 S4.out.pt).mono ?_
  rintro _ W9 ⟨X2, m2, e2, rfl, N8, M8, -, hb9⟩
  have S5 := Lib.hid (S4.out.next hb9)
  have M2 := Lib.hid M8
  have N2 := Lib.hid N8
  have M1' := Lib.hid (M1.out.next hb9)
  clear M8 N8 hb9 S4 M1
  go_wp2_with fail
  refine And.intro (fun _ => S5.out.cells) ?_
  refine anyN_oneL 15 (by kernel_rfl) ?_
  simp only [List.take_succ_cons, List.take_zero, List.drop_succ_cons, List.drop_zero]
  go_wp2_with fail
  refine (same_c 1 1 1 1 X1 X2 m1 e1 m2 e2 _ _ _ M1'.out M2.out N1.out N2.out (by have := N1.out; simp at this; omega)).mono ?_
  rintro _ W9 ⟨b9, rfl, r9, hb9⟩
  obtain rfl : b9 = true := r9.2 ⟨rfl, rfl, rfl⟩
  have S6 := Lib.hid (S5.out.next hb9)
  clear r9 hb9 S5
  go_wp2_with fail
  refine And.intro (fun _ => S6.out.cells) ?_
  clear M1' M2 N1 N2
  refine anyN_more [16, 17, 18, 19, 20, 22] 12 (by kernel_rfl) (by kernel_rfl) (by kernel_rfl) (by kernel_rfl) (fun _ _ _ _ _ h => h) S6.out.cells ?_
  intro hne hu
  simp only [AllCells] at hu
  simp only [pick, List.take_succ_cons, List.take_zero, List.drop_succ_cons, List.drop_zero, List.cons_append, List.nil_append]
  repeat (go_big_quiet_step (fail))
  refine wpQuiet_nil ?_
  clear hne hu
  refine anyN_oneL 21 (by kernel_rfl) ?_
  simp only [List.take_succ_cons, List.take_zero, List.drop_succ_cons, List.drop_zero]
  go_wp2_with fail
  refine (askTranspose C R A1 n1 c1 bL (turnL R C l) _ S6.out.bl S6.out.a1 S6.out.pt).mono ?_
  rintro _ W9 ⟨X1, m1, e1, rfl, N8, M8, -, hb9⟩
  have S7 := Lib.hid (S6.out.next hb9)
  have M1 := Lib.hid M8
  have N1 := Lib.hid N8
  clear M8 N8 hb9 S6
  go_wp2_with fail
  refine And.intro (fun _ => S7.out.cells) ?_
  refine anyN_oneL 23 (by kernel_rfl) ?_
  simp only [List.take_succ_cons, List.take_zero, List.drop_succ_cons, List.drop_zero]
  go_wp2_with fail
  refine (same_c R C R C X1 A m1 e1 n ca _ _ _ M1.out S7.out.a0.many N1.out S7.out.a0.len (by have h1 := N1.out; rw [TW.out] at h1; have h2 := S7.out.a0.len; have h3 := S7.out.a0.le; omega)).mono ?_
  rintro _ W9 ⟨b9, rfl, r9, hb9⟩
  obtain rfl : b9 = true := r9.2 ⟨rfl, rfl, TW.out⟩
  have S8 := Lib.hid (S7.out.next hb9)
  clear r9 hb9 S7
  go_wp2_with fail
  refine And.intro (fun _ => S8.out.cells) ?_
  clear M1 N1
  refine anyN_more [24, 25, 26, 27, 28, 30] 4 (by kernel_rfl) (by kernel_rfl) (by kernel_rfl) (by kernel_rfl) (fun _ _ _ _ _ h => h) S8.out.cells ?_
  intro hne hu
  simp only [AllCells] at hu
  simp only [pick, List.take_succ_cons, List.take_zero, List.drop_succ_cons, List.drop_zero, List.cons_append, List.nil_append]
  repeat (go_big_quiet_step (fail))
  refine wpQuiet_nil ?_
  clear hne hu
  refine anyN_oneL 29 (by kernel_rfl) ?_
  simp only [List.take_succ_cons, List.take_zero, List.drop_succ_cons, List.drop_zero]
  go_wp2_with fail
  refine (askTranspose 1 n A2 n2 c2 bL l _ S8.out.bl S8.out.a2 S8.out.pt).mono ?_
  rintro _ W9 ⟨X1, m1, e1, rfl, N8, M8, -, hb9⟩
  have S9 := Lib.hid (S8.out.next hb9)
  have M1 := Lib.hid M8
  have N1 := Lib.hid N8
  clear M8 N8 hb9 S8
  go_wp2_with fail
  refine And.intro (fun _ => S9.out.cells) ?_
  refine anyN_oneL 31 (by kernel_rfl) ?_
  simp only [List.take_succ_cons, List.take_zero, List.drop_succ_cons, List.drop_zero]
  go_wp2_with fail
  refine (same_c n 1 n 1 X1 A3 m1 e1 n3 c3 _ _ _ M1.out S9.out.a3.many N1.out S9.out.a3.len (by have h1 := N1.out; rw [TR.out] at h1; have h2 := S9.out.a0.len; have h3 := S9.out.a0.le; omega)).mono ?_
  rintro _ W9 ⟨b9, rfl, r9, hb9⟩
  obtain rfl : b9 = true := r9.2 ⟨rfl, rfl, TR.out⟩
  have S10 := Lib.hid (S9.out.next hb9)
  clear r9 hb9 S9
  go_wp2_with fail
  refine And.intro (fun _ => S10.out.cells) ?_
  clear M1 N1
  refine anyN_more [32, 33] 0 (by kernel_rfl) (by kernel_rfl) (by kernel_rfl) (by kernel_rfl) (fun _ _ _ _ _ h => h) S10.out.cells ?_
  intro hne hu
  simp only [AllCells] at hu
  simp only [pick, List.take_succ_cons, List.take_zero, List.drop_succ_cons, List.drop_zero, List.cons_append, List.nil_append]
  repeat (go_big_quiet_step (fail))
  refine wpQuiet_nil ?_
  clear hne hu
  refine ⟨by kernel_rfl, ?_⟩
  go_wp2_with fail
  have S11 := Lib.hid S10.out.drew
  clear S10
  have HC := S11.out.cells
  refine region_free _ [0, 1, 3, 4] 14 (by kernel_rfl) (by kernel_rfl) (by kernel_rfl) (by kernel_rfl) (by kernel_rfl) (fun _ _ _ _ _ h => h) HC ?_
  intro hne hu
  simp only [AllCells] at hu
  simp only [pick, List.take_succ_cons, List.take_zero, List.drop_succ_cons, List.drop_zero, List.cons_append, List.nil_append]
  repeat (go_big_quiet_step (fail))
  refine wpQuiet_nil ?_
  clear hne hu
  clear HC
  refine anyN_oneL 2 (by kernel_rfl) ?_
  simp only [List.take_succ_cons, List.take_zero, List.drop_succ_cons, List.drop_zero]
  go_wp2_with fail
  refine (askCount C R A1 n1 c1 bL (turnL R C l) _ S11.out.bl S11.out.a1 S11.out.pt).mono ?_
  rintro _ W9 ⟨X1, m1, e1, rfl, N8, M8, -, hb9⟩
  have S12 := Lib.hid (S11.out.next hb9)
  have M1 := Lib.hid M8
  have N1 := Lib.hid N8
  clear M8 N8 hb9 S11
  go_wp2_with fail
  refine And.intro (fun _ => S12.out.cells) ?_
  refine anyN_oneL 5 (by kernel_rfl) ?_
  simp only [List.take_succ_cons, List.take_zero, List.drop_succ_cons, List.drop_zero]
  go_wp2_with fail
  refine (askCount R C A n ca bL l _ S12.out.bl S12.out.a0 S12.out.pt).mono ?_
  rintro _ W9 ⟨X2, m2, e2, rfl, N8, M8, -, hb9⟩
  have S13 := Lib.hid (S12.out.next hb9)
  have M2 := Lib.hid M8
  have N2 := Lib.hid N8
  have M1' := Lib.hid (M1.out.next hb9)
  clear M8 N8 hb9 S12 M1
  go_wp2_with fail
  refine And.intro (fun _ => S13.out.cells) ?_
  refine anyN_oneL 6 (by kernel_rfl) ?_
  simp only [List.take_succ_cons, List.take_zero, List.drop_succ_cons, List.drop_zero]
  go_wp2_with fail
  refine (same_c 1 1 1 1 X1 X2 m1 e1 m2 e2 _ _ _ M1'.out M2.out N1.out N2.out (by have := N1.out; simp at this; omega)).mono ?_
  rintro _ W9 ⟨b9, rfl, r9, hb9⟩
  obtain rfl : b9 = true := r9.2 ⟨rfl, rfl, by rw [TC.out]⟩
  have S14 := Lib.hid (S13.out.next hb9)
  clear r9 hb9 S13
  go_wp2_with fail
  refine And.intro (fun _ => S14.out.cells) ?_
  clear M1' M2 N1 N2
  refine anyN_more [7, 8, 9, 10, 12, 13] 5 (by kernel_rfl) (by kernel_rfl) (by kernel_rfl) (by kernel_rfl) (fun _ _ _ _ _ h => h) S14.out.cells ?_
  intro hne hu
  simp only [AllCells] at hu
  simp only [pick, List.take_succ_cons, List.take_zero, List.drop_succ_cons, List.drop_zero, List.cons_append, List.nil_append]
  repeat (go_big_quiet_step (fail))
  refine wpQuiet_nil ?_
  clear hne hu
  refine anyN_oneL 11 (by kernel_rfl) ?_
  simp only [List.take_succ_cons, List.take_zero, List.drop_succ_cons, List.drop_zero]
  go_wp2_with fail
  refine (askCounta C R A1 n1 c1 bL (turnL R C l) _ S14.out.bl S14.out.a1 S14.out.pt).mono ?_
  rintro _ W9 ⟨X1, m1, e1, rfl, N8, M8, -, hb9⟩
  have S15 := Lib.hid (S14.out.next hb9)
  have M1 := Lib.hid M8
  have N1 := Lib.hid N8
  clear M8 N8 hb9 S14
  go_wp2_with fail
  refine And.intro (fun _ => S15.out.cells) ?_
  refine anyN_oneL 14 (by kernel_rfl) ?_
  simp only [List.take_succ_cons, List.take_zero, List.drop_succ_cons, List.drop_zero]
  go_wp2_with fail
  refine (askCounta n 1 A3 n3 c3 bL l _ S15.out.bl S15.out.a3 S15.out.pt).mono ?_
  rintro _ W9 ⟨X2, m2, e2, rfl, N8, M8, -, hb9⟩
  have S16 := Lib.hid (S15.out.next hb9)
  have M2 := Lib.hid M8
  have N2 := Lib.hid N8
  have M1' := Lib.hid (M1.out.next hb9)
  clear M8 N8 hb9 S15 M1
  go_wp2_with fail
  refine And.intro (fun _ => S16.out.cells) ?_
  refine anyN_oneL 15 (by kernel_rfl) ?_
  simp only [List.take_succ_cons, List.take_zero, List.drop_succ_cons, List.drop_zero]
  go_wp2_with fail
  refine (same_c 1 1 1 1 X1 X2 m1 e1 m2 e2 _ _ _ M1'.out M2.out N1.out N2.out (by have := N1.out; simp at this; omega)).mono ?_
  rintro _ W9 ⟨b9, rfl, r9, hb9⟩
  obtain rfl : b9 = true := r9.2 ⟨rfl, rfl, by rw [TC.out]⟩
  have S17 := Lib.hid (S16.out.next hb9)
  clear r9 hb9 S16
  go_wp2_with fail
  refine And.intro (fun _ => S17.out.cells) ?_
  clear M1' M2 N1 N2
  refine anyN_more [16, 17] 0 (by kernel_rfl) (by kernel_rfl) (by kernel_rfl) (by kernel_rfl) (fun _ _ _ _ _ h => h) S17.out.cells ?_
  intro hne hu
  simp only [AllCells] at hu
  simp only [pick, List.take_succ_cons, List.take_zero, List.drop_succ_cons, List.drop_zero, List.cons_append, List.nil_append]
  repeat (go_big_quiet_step (fail))
  refine wpQuiet_nil ?_
  clear hne hu
  refine ⟨by kernel_rfl, ?_⟩
  clear TW TR TC
  have BA9 := Lib.hid S17.out.ba
  have a0 := BA9.out.cell 0
  have a1 := BA9.out.cell 1
  have a2 := BA9.out.cell 2
  simp only [List.getElem?_toArray, List.getElem?_cons_zero, List.getElem?_cons_succ] at a0 a1 a2
  go_wp2_with fail
  refine (askSum R C A n ca bL l _ S17.out.bl S17.out.a0 S17.out.pt).mono ?_
  rintro _ W9 ⟨X8, m8, e8, rfl, N8, M8, F8, hb9⟩
  obtain rfl : 1 = m8 := N8
  have S18 := Lib.hid (S17.out.next hb9)
  have S19 := Lib.hid ((S18.out.next ((Below.refl _ W9).alloc (Nat.le_refl _) (.cells #[.int .i64 1, .int .i64 1, .slice X8 1 e8] 28))).drew)
  have BY := Lib.hid (show Blk (W9.alloc (.cells #[.int .i64 1, .int .i64 1, .slice X8 1 e8] 28)).drew W9.heap.size 28 #[.int .i64 1, .int .i64 1, .slice X8 1 e8] from (Blk.new W9 28 #[.int .i64 1, .int .i64 1, .slice X8 1 e8]).kept ((Below.refl _ _).drew.block _ (Blk.new W9 28 #[.int .i64 1, .int .i64 1, .slice X8 1 e8]).lt))
  have MX := Lib.hid ((M8.next ((Below.refl _ W9).alloc (Nat.le_refl _) (.cells #[.int .i64 1, .int .i64 1, .slice X8 1 e8] 28))).next (Below.refl _ _).drew)
  clear M8 F8 hb9 S17 BA9 a0 a1 a2
  go_wp2_with fail
  clear S18
  generalize W9.alloc (.cells #[.int .i64 1, .int .i64 1, .slice X8 1 e8] 28) = V9 at *
  generalize W9.heap.size = p8 at *
  have HC := S19.out.cells8 BY.out
  refine region_free _ [0, 1, 2, 3, 4, 5, 6, 7] 11 (by kernel_rfl) (by kernel_rfl) (by kernel_rfl) (by kernel_rfl) (by kernel_rfl) (fun _ _ _ _ _ h => h) HC ?_
  intro hne hu
  simp only [AllCells] at hu
  simp only [pick, List.take_succ_cons, List.take_zero, List.drop_succ_cons, List.drop_zero, List.cons_append, List.nil_append]
  repeat (go_big_quiet_step (fail))
  refine wpQuiet_nil ?_
  clear hne hu
  clear HC
  refine anyN_oneL 8 (by kernel_rfl) ?_
  simp only [List.take_succ_cons, List.take_zero, List.drop_succ_cons, List.drop_zero]
  go_wp2_with fail
  refine (askSum 1 n A2 n2 c2 bL l _ S19.out.bl S19.out.a2 S19.out.pt).mono ?_
  rintro _ W9 ⟨X1, m1, e1, rfl, N8, M8, -, hb9⟩
  have S20 := Lib.hid (S19.out.next hb9)
  have M1 := Lib.hid M8
  have N1 := Lib.hid N8
  have BY1 := Lib.hid (BY.out.kept (hb9.block _ BY.out.lt))
  have MX1 := Lib.hid (MX.out.next hb9)
  clear M8 N8 hb9 S19 BY MX
  go_wp2_with fail
  refine And.intro (fun _ => S20.out.cells8 BY1.out) ?_
  refine anyN_oneL 9 (by kernel_rfl) ?_
  simp only [List.take_succ_cons, List.take_zero, List.drop_succ_cons, List.drop_zero]
  go_wp2_with fail
  refine (same_c 1 1 1 1 X8 X1 1 e8 m1 e1 _ _ _ MX1.out M1.out rfl N1.out (by omega)).mono ?_
  rintro _ W9 ⟨b9, rfl, r9, hb9⟩
  obtain rfl : b9 = true := r9.2 ⟨rfl, rfl, rfl⟩
  have S21 := Lib.hid (S20.out.next hb9)
  have BY2 := Lib.hid (BY1.out.kept (hb9.block _ BY1.out.lt))
  have MX2 := Lib.hid (MX1.out.next hb9)
  clear r9 hb9 S20 BY1 MX1
  go_wp2_with fail
  refine And.intro (fun _ => S21.out.cells8 BY2.out) ?_
  clear M1 N1
  refine anyN_more [10, 11, 12, 13, 14] 4 (by kernel_rfl) (by kernel_rfl) (by kernel_rfl) (by kernel_rfl) (fun _ _ _ _ _ h => h) (S21.out.cells8 BY2.out) ?_
  intro hne hu
  simp only [AllCells] at hu
  simp only [pick, List.take_succ_cons, List.take_zero, List.drop_succ_cons, List.drop_zero, List.cons_append, List.nil_append]
  repeat (go_big_quiet_step (fail))
  refine wpQuiet_nil ?_
  clear hne hu
  refine anyN_oneL 15 (by kernel_rfl) ?_
  simp only [List.take_succ_cons, List.take_zero, List.drop_succ_cons, List.drop_zero]
  go_wp2_with fail
  refine (askSum n 1 A3 n3 c3 bL l _ S21.out.bl S21.out.a3 S21.out.pt).mono ?_
  rintro _ W9 ⟨X1, m1, e1, rfl, N8, M8, -, hb9⟩
  have S22 := Lib.hid (S21.out.next hb9)
  have M1 := Lib.hid M8
  have N1 := Lib.hid N8
  have BY3 := Lib.hid (BY2.out.kept (hb9.block _ BY2.out.lt))
  have MX3 := Lib.hid (MX2.out.next hb9)
  clear M8 N8 hb9 S21 BY2 MX2
  go_wp2_with fail
  refine And.intro (fun _ => S22.out.cells8 BY3.out) ?_
  refine anyN_oneL 16 (by kernel_rfl) ?_
  simp only [List.take_succ_cons, List.take_zero, List.drop_succ_cons, List.drop_zero]
  go_wp2_with fail
  refine (same_c 1 1 1 1 X8 X1 1 e8 m1 e1 _ _ _ MX3.out M1.out rfl N1.out (by omega)).mono ?_
  rintro _ W9 ⟨b9, rfl, r9, hb9⟩
  obtain rfl : b9 = true := r9.2 ⟨rfl, rfl, rfl⟩
  have S23 := Lib.hid (S22.out.next hb9)
  have BY4 := Lib.hid (BY3.out.kept (hb9.block _ BY3.out.lt))
  have MX4 := Lib.hid (MX3.out.next hb9)
  clear r9 hb9 S22 BY3 MX3
  go_wp2_with fail
  refine And.intro (fun _ => S23.out.cells8 BY4.out) ?_
  clear M1 N1
  refine anyN_more [17, 18] 0 (by kernel_rfl) (by kernel_rfl) (by kernel_rfl) (by kernel_rfl) (fun _ _ _ _ _ h => h) (S23.out.cells8 BY4.out) ?_
  intro hne hu
  simp only [AllCells] at hu
  simp only [pick, List.take_succ_cons, List.take_zero, List.drop_succ_cons, List.drop_zero, List.cons_append, List.nil_append]
  repeat (go_big_quiet_step (fail))
  refine wpQuiet_nil ?_
  clear hne hu
  refine ⟨by kernel_rfl, ?_⟩
  go_wp2_with fail
  go_ret
  exact ⟨rfl, S23.out.below⟩
end Go.Proofs.YtdmbppgogdkpdaaGreatDoor
namespace Go.Proofs.YtdmbppgogdkpdaaGreatDoor
open Go.RowKit
theorem law4_c (r c : Int) (A : Option Addr) (n ca : Nat) (l : List Val) (w : World) (hR : ManyR Val.cs 6 w A l) (hn : l.length = n) (hg : ∀ z ∈ l, FitsV z) (htab : PowT w) :
    Calls Tryz.prog 4 #[.agg #[.int .i64 r, .int .i64 c, .slice A n ca]] w fun e w' => e = .returned (.bool true) ∧ Below w.heap.size w w' := by
  by_cases h1 : 60 < n
  · exact law_long r c A n ca w h1
  by_cases h2 : RightA r c l
  · have k1 := h2.r1
    have k2 := h2.c1
    obtain ⟨R, rfl⟩ : ∃ R : Nat, r = R := ⟨r.toNat, by omega⟩
    obtain ⟨C, rfl⟩ : ∃ C : Nat, c = C := ⟨c.toNat, by omega⟩
    exact law_right R C A n ca l w (by omega) ⟨hR, hn, by omega, hg, h2⟩ htab
  · exact law_wrong r c A n ca l w (by omega) hR hn hg h2
end Go.Proofs.YtdmbppgogdkpdaaGreatDoor
