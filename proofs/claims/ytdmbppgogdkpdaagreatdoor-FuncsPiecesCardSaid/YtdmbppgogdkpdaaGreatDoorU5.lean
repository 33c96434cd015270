/-
  A region that draws its order: four operations in a row, the second one laying a block, and beside them one allocation. No condition.
  The law FuncsPieces: the walk. Condition: the table of powers of ten reads as the program lays it; internal/bytealg.MaxLen holds some int.
  The law FuncsPieces returns true. Condition: the table of powers of ten reads as the program lays it; internal/bytealg.MaxLen holds some int.
-/
import Derived.Test.YtdmbppgogdkpdaaGreatDoorU2
import Derived.Test.YtdmbppgogdkpdaaGreatDoorS22
set_option linter.unusedSectionVars false
namespace Go.Proofs.YtdmbppgogdkpdaaGreatDoor
open Go.RowKit
def agO (g : Nat) : Value := .agg #[.int .i64 1, .int .i64 1, .slice (some ⟨g, 0, none⟩) 1 1]
def slO (b : Nat) : Value := .slice (some ⟨b, 0, none⟩) 1 1
def tpA (A : Option Addr) (ca : Nat) : Value := .tuple #[.agg #[.int .i64 1, .int .i64 1, .slice A 1 ca], .bool true]
def ptO (p : Nat) : Value := .pointer (some ⟨p, 0, none⟩)
def cO (g : Nat) : Array Value := #[.int .i64 1, .int .i64 1, .slice (some ⟨g, 0, none⟩) 1 1]
def FC (a0 : Act) (s1 s2 s3 s4 s5 : Nat) (u1 u2 u3 u4 u5 : Value) : Act := ((((a0.put (some s1) u1).put (some s2) u2).put (some s3) u3).put (some s4) u4).put (some s5) u5
def lsC (c : List Nat) (cA : Nat) (l0 : Array Bool) (k : Nat) (b : Bool) : Array Bool := listedAll l0 (if b then c.take k ++ [cA] else c.take k)
def okC (ops : Array Oper) (c : List Nat) (cA : Nat) (l0 : Array Bool) : Bool := [0, 1, 2, 3].all fun k =>
  (Region.ready .any ops (lsC c cA l0 k false) == [c.getD k 0, cA]) && (Region.ready .any ops (lsC c cA l0 k true) == [c.getD k 0]) &&
  (((lsC c cA l0 k false).setIfInBounds (c.getD k 0) true).toList == (lsC c cA l0 (k + 1) false).toList) && (((lsC c cA l0 k true).setIfInBounds (c.getD k 0) true).toList == (lsC c cA l0 (k + 1) true).toList) &&
  (((lsC c cA l0 k false).setIfInBounds cA true).toList == (lsC c cA l0 k true).toList)
theorem okC_spec {ops : Array Oper} {c : List Nat} {cA : Nat} {l0 : Array Bool} (h : okC ops c cA l0 = true) (k : Nat) (hk : k ≤ 3) :
    Region.ready .any ops (lsC c cA l0 k false) = [c.getD k 0, cA] ∧ Region.ready .any ops (lsC c cA l0 k true) = [c.getD k 0] ∧ (lsC c cA l0 k false).setIfInBounds (c.getD k 0) true = lsC c cA l0 (k + 1) false ∧ (lsC c cA l0 k true).setIfInBounds (c.getD k 0) true = lsC c cA l0 (k + 1) true ∧ (lsC c cA l0 k false).setIfInBounds cA true = lsC c cA l0 k true := by
  have := List.all_eq_true.1 h k (by simp; omega)
  simp only [Bool.and_eq_true, beq_iff_eq] at this
  obtain ⟨⟨⟨⟨h1, h2⟩, h3⟩, h4⟩, h5⟩ := this
  exact ⟨h1, h2, Array.toList_inj.1 h3, Array.toList_inj.1 h4, Array.toList_inj.1 h5⟩
section
variable {P : Program} {ops : Array Oper} {Q : Exit → Act → World → Prop} {S : World → Prop} {need : Nat → Bool} {g : Nat} {listed : Array Bool} {a : Act} {w : World}
theorem anyN_1 {i : Nat} {l' : Array Bool} (hr : Region.ready .any ops listed = [i]) (hl : listed.setIfInBounds i true = l')
    (h : ∀ K : Act → World → Prop, (∀ a' w', S w' → wpAnyN P .any ops Q S need g l' a' w' → K a' w') → wpOp P ops Q i K a w) : wpAnyN P .any ops Q S need (g + 1) listed a w := by
  refine ⟨fun e => (by rw [hr] at e; cases e), fun j hj => ?_⟩
  rw [hr] at hj
  obtain rfl := List.mem_singleton.1 hj
  exact h _ fun a' w' hs hw => ⟨fun _ => hs, by rw [hl]; exact hw⟩
theorem anyN_2 {i j : Nat} {l' l'' : Array Bool} (hr : Region.ready .any ops listed = [i, j]) (hl : listed.setIfInBounds i true = l') (hl2 : listed.setIfInBounds j true = l'')
    (h : ∀ K : Act → World → Prop, (∀ a' w', S w' → wpAnyN P .any ops Q S need g l' a' w' → K a' w') → wpOp P ops Q i K a w)
    (k : ∀ K : Act → World → Prop, (∀ a' w', S w' → wpAnyN P .any ops Q S need g l'' a' w' → K a' w') → wpOp P ops Q j K a w) : wpAnyN P .any ops Q S need (g + 1) listed a w := by
  refine ⟨fun e => (by rw [hr] at e; cases e), fun m hm => ?_⟩
  rw [hr] at hm
  simp only [List.mem_cons, List.not_mem_nil, or_false] at hm
  rcases hm with rfl | rfl
  · exact h _ fun a' w' hs hw => ⟨fun _ => hs, by rw [hl]; exact hw⟩
  · exact k _ fun a' w' hs hw => ⟨fun _ => hs, by rw [hl2]; exact hw⟩
end
theorem anyC {P : Program} {l : List Oper} {Q : Exit → Act → World → Prop} {S : World → Prop} {need : Nat → Bool} (g : Nat) (a0 : Act) (V : World) {l0 : Array Bool} (s1 s2 s3 s4 s5 c1 c2 c3 c4 cA : Nat) (x : ByteArray) (nx nz : Nat)
    (hok : okC l.toArray [c1, c2, c3, c4] cA l0 = true)
    (hS : ∀ W, Below V.heap.size V W → S W)
    (h1 : ∀ u1 u2 u3 u4 u5 W K, Below V.heap.size V W → (∀ g W', OneR W' g (strV x) → Below W.heap.size W W' → K (FC a0 s1 s2 s3 s4 s5 (agO g) u2 u3 u4 u5) W') → wpOp P l.toArray Q c1 K (FC a0 s1 s2 s3 s4 s5 u1 u2 u3 u4 u5) W)
    (h2 : ∀ g u2 u3 u4 u5 W K, K (FC a0 s1 s2 s3 s4 s5 (agO g) (slO W.heap.size) u3 u4 u5) (W.alloc (.cells (cO g) 28)) → wpOp P l.toArray Q c2 K (FC a0 s1 s2 s3 s4 s5 (agO g) u2 u3 u4 u5) W)
    (h3 : ∀ g b u3 u4 u5 W K, Below V.heap.size V W → OneR W g (strV x) → Blk W b 28 (cO g) → (∀ g' W', OneR W' g' (countV nx) → Below W.heap.size W W' → K (FC a0 s1 s2 s3 s4 s5 (agO g) (slO b) (agO g') u4 u5) W') → wpOp P l.toArray Q c3 K (FC a0 s1 s2 s3 s4 s5 (agO g) (slO b) u3 u4 u5) W)
    (h4 : ∀ u1 u2 g' u4 u5 W K, Below V.heap.size V W → OneR W g' (countV nx) → (∀ A ca W', ManyR Val.cs 6 W' A [countV nz] → (∀ a, A = some a → W.heap.size ≤ a.block) → Below W.heap.size W W' → K (FC a0 s1 s2 s3 s4 s5 u1 u2 (agO g') (tpA A ca) u5) W') → wpOp P l.toArray Q c4 K (FC a0 s1 s2 s3 s4 s5 u1 u2 (agO g') u4 u5) W)
    (h5 : ∀ u1 u2 u3 u4 u5 W K, K (FC a0 s1 s2 s3 s4 s5 u1 u2 u3 u4 (ptO W.heap.size)) (W.alloc (.cells #[.int .i64 0, .int .i64 0, .slice none 0 0] 28)) → wpOp P l.toArray Q cA K (FC a0 s1 s2 s3 s4 s5 u1 u2 u3 u4 u5) W)
    (hT : ∀ u1 u2 u3 A ca p W, Below V.heap.size V W → ManyR Val.cs 6 W A [countV nz] → Blk W p 28 #[.int .i64 0, .int .i64 0, .slice none 0 0] → V.heap.size ≤ p → (∀ a, A = some a → a.block ≠ p) → wpAnyN P .any l.toArray Q S need g (lsC [c1, c2, c3, c4] cA l0 4 true) (FC a0 s1 s2 s3 s4 s5 u1 u2 u3 (tpA A ca) (ptO p)) W)
    (hF : ∀ u1 u2 u3 A ca W, Below V.heap.size V W → ManyR Val.cs 6 W A [countV nz] → (∀ a, A = some a → a.block < W.heap.size) → wpAnyN P .any l.toArray Q S need (g + 1) (lsC [c1, c2, c3, c4] cA l0 4 false) (FC a0 s1 s2 s3 s4 s5 u1 u2 u3 (tpA A ca) undef) W)
    (hst : FC a0 s1 s2 s3 s4 s5 undef undef undef undef undef = a0) :
    wpAnyN P .any l.toArray Q S need (g + 5) l0 a0 V := by
  obtain ⟨r0, t0, sf0, st0, sa0⟩ := okC_spec hok 0 (by omega)
  obtain ⟨r1, t1, sf1, st1, sa1⟩ := okC_spec hok 1 (by omega)
  obtain ⟨r2, t2, sf2, st2, sa2⟩ := okC_spec hok 2 (by omega)
  obtain ⟨r3, t3, sf3, st3, sa3⟩ := okC_spec hok 3 (by omega)
  have lt : ∀ {W : World} {A : Option Addr}, ManyR Val.cs 6 W A [countV nz] → ∀ a, A = some a → a.block < W.heap.size := fun {W A} h a ha => by
    obtain ⟨b, o, e, hb, _⟩ := h (by simp)
    rw [ha] at e
    cases e
    exact hb
  have T3 : ∀ u1 u2 g' u4 p W, Below V.heap.size V W → OneR W g' (countV nx) → Blk W p 28 #[.int .i64 0, .int .i64 0, .slice none 0 0] → V.heap.size ≤ p → wpAnyN P .any l.toArray Q S need (g + 1) (lsC [c1, c2, c3, c4] cA l0 3 true) (FC a0 s1 s2 s3 s4 s5 u1 u2 (agO g') u4 (ptO p)) W := fun u1 u2 g' u4 p W hb ho hp hv =>
    anyN_1 t3 st3 fun K hK => h4 _ _ _ _ _ W K hb ho fun A ca W' hm hge hb2 => hK _ _ (hS _ (hb.trans (hb2.mono hb.size))) (hT _ _ _ _ _ _ _ (hb.trans (hb2.mono hb.size)) hm (hp.kept (hb2.block _ hp.lt)) hv fun a ha e => by have h1 := hge a ha; have h2 := hp.lt; rw [e] at h1; omega)
  have T2 : ∀ g' b u3 u4 p W, Below V.heap.size V W → OneR W g' (strV x) → Blk W b 28 (cO g') → Blk W p 28 #[.int .i64 0, .int .i64 0, .slice none 0 0] → V.heap.size ≤ p → wpAnyN P .any l.toArray Q S need (g + 1 + 1) (lsC [c1, c2, c3, c4] cA l0 2 true) (FC a0 s1 s2 s3 s4 s5 (agO g') (slO b) u3 u4 (ptO p)) W := fun g' b u3 u4 p W hb ho hk hp hv =>
    anyN_1 t2 st2 fun K hK => h3 _ _ _ _ _ W K hb ho hk fun g2 W' hm hb2 => hK _ _ (hS _ (hb.trans (hb2.mono hb.size))) (T3 _ _ _ _ _ _ (hb.trans (hb2.mono hb.size)) hm (hp.kept (hb2.block _ hp.lt)) hv)
  have T1 : ∀ g' u2 u3 u4 p W, Below V.heap.size V W → OneR W g' (strV x) → Blk W p 28 #[.int .i64 0, .int .i64 0, .slice none 0 0] → V.heap.size ≤ p → wpAnyN P .any l.toArray Q S need (g + 1 + 1 + 1) (lsC [c1, c2, c3, c4] cA l0 1 true) (FC a0 s1 s2 s3 s4 s5 (agO g') u2 u3 u4 (ptO p)) W := fun g' u2 u3 u4 p W hb ho hp hv =>
    anyN_1 t1 st1 fun K hK => h2 _ _ _ _ _ W K (hK _ _ (hS _ (hb.trans (((Below.refl _ W).alloc (Nat.le_refl _) _).mono hb.size))) (T2 _ _ _ _ _ _ (hb.trans (((Below.refl _ W).alloc (Nat.le_refl _) _).mono hb.size)) (ho.next ((Below.refl _ W).alloc (Nat.le_refl _) _)) (Blk.new W 28 _) (hp.alloc _) hv))
  have T0 : ∀ u1 u2 u3 u4 p W, Below V.heap.size V W → Blk W p 28 #[.int .i64 0, .int .i64 0, .slice none 0 0] → V.heap.size ≤ p → wpAnyN P .any l.toArray Q S need (g + 1 + 1 + 1 + 1) (lsC [c1, c2, c3, c4] cA l0 0 true) (FC a0 s1 s2 s3 s4 s5 u1 u2 u3 u4 (ptO p)) W := fun u1 u2 u3 u4 p W hb hp hv =>
    anyN_1 t0 st0 fun K hK => h1 _ _ _ _ _ W K hb fun g2 W' hm hb2 => hK _ _ (hS _ (hb.trans (hb2.mono hb.size))) (T1 _ _ _ _ _ _ (hb.trans (hb2.mono hb.size)) hm (hp.kept (hb2.block _ hp.lt)) hv)
  have F3 : ∀ u1 u2 g' u4 W, Below V.heap.size V W → OneR W g' (countV nx) → wpAnyN P .any l.toArray Q S need (g + 1 + 1) (lsC [c1, c2, c3, c4] cA l0 3 false) (FC a0 s1 s2 s3 s4 s5 u1 u2 (agO g') u4 undef) W := fun u1 u2 g' u4 W hb ho =>
    anyN_2 r3 sf3 sa3 (fun K hK => h4 _ _ _ _ _ W K hb ho fun A ca W' hm hge hb2 => hK _ _ (hS _ (hb.trans (hb2.mono hb.size))) (hF _ _ _ _ _ _ (hb.trans (hb2.mono hb.size)) hm (lt hm)))
      (fun K hK => h5 _ _ _ _ _ W K (hK _ _ (hS _ (hb.trans (((Below.refl _ W).alloc (Nat.le_refl _) _).mono hb.size))) (T3 _ _ _ _ _ _ (hb.trans (((Below.refl _ W).alloc (Nat.le_refl _) _).mono hb.size)) (ho.next ((Below.refl _ W).alloc (Nat.le_refl _) _)) (Blk.new W 28 _) hb.size)))
  have F2 : ∀ g' b u3 u4 W, Below V.heap.size V W → OneR W g' (strV x) → Blk W b 28 (cO g') → wpAnyN P .any l.toArray Q S need (g + 1 + 1 + 1) (lsC [c1, c2, c3, c4] cA l0 2 false) (FC a0 s1 s2 s3 s4 s5 (agO g') (slO b) u3 u4 undef) W := fun g' b u3 u4 W hb ho hk =>
    anyN_2 r2 sf2 sa2 (fun K hK => h3 _ _ _ _ _ W K hb ho hk fun g2 W' hm hb2 => hK _ _ (hS _ (hb.trans (hb2.mono hb.size))) (F3 _ _ _ _ _ (hb.trans (hb2.mono hb.size)) hm))
      (fun K hK => h5 _ _ _ _ _ W K (hK _ _ (hS _ (hb.trans (((Below.refl _ W).alloc (Nat.le_refl _) _).mono hb.size))) (T2 _ _ _ _ _ _ (hb.trans (((Below.refl _ W).alloc (Nat.le_refl _) _).mono hb.size)) (ho.next ((Below.refl _ W).alloc (Nat.le_refl _) _)) (hk.alloc _) (Blk.new W 28 _) hb.size)))
  have F1 : ∀ g' u2 u3 u4 W, Below V.heap.size V W → OneR W g' (strV x) → wpAnyN P .any l.toArray Q S need (g + 1 + 1 + 1 + 1) (lsC [c1, c2, c3, c4] cA l0 1 false) (FC a0 s1 s2 s3 s4 s5 (agO g') u2 u3 u4 undef) W := fun g' u2 u3 u4 W hb ho =>
    anyN_2 r1 sf1 sa1 (fun K hK => h2 _ _ _ _ _ W K (hK _ _ (hS _ (hb.trans (((Below.refl _ W).alloc (Nat.le_refl _) _).mono hb.size))) (F2 _ _ _ _ _ (hb.trans (((Below.refl _ W).alloc (Nat.le_refl _) _).mono hb.size)) (ho.next ((Below.refl _ W).alloc (Nat.le_refl _) _)) (Blk.new W 28 _))))
      (fun K hK => h5 _ _ _ _ _ W K (hK _ _ (hS _ (hb.trans (((Below.refl _ W).alloc (Nat.le_refl _) _).mono hb.size))) (T1 _ _ _ _ _ _ (hb.trans (((Below.refl _ W).alloc (Nat.le_refl _) _).mono hb.size)) (ho.next ((Below.refl _ W).alloc (Nat.le_refl _) _)) (Blk.new W 28 _) hb.size)))
  have hb := Below.refl V.heap.size V
  have F0 : wpAnyN P .any l.toArray Q S need (g + 1 + 1 + 1 + 1 + 1) (lsC [c1, c2, c3, c4] cA l0 0 false) (FC a0 s1 s2 s3 s4 s5 undef undef undef undef undef) V :=
    anyN_2 r0 sf0 sa0 (fun K hK => h1 _ _ _ _ _ V K hb fun g2 W' hm hb2 => hK _ _ (hS _ hb2) (F1 _ _ _ _ _ hb2 hm))
      (fun K hK => h5 _ _ _ _ _ V K (hK _ _ (hS _ ((Below.refl _ V).alloc (Nat.le_refl _) _)) (T0 _ _ _ _ _ _ ((Below.refl _ V).alloc (Nat.le_refl _) _) (Blk.new V 28 _) (Nat.le_refl _))))
  rw [hst] at F0
  exact F0
def FX (a0 : Act) (s1 s2 s3 s4 s5 d1 d2 d3 : Nat) (u1 u2 u3 : Value) (A : Option Addr) (ca p : Nat) : Act := (((FC a0 s1 s2 s3 s4 s5 u1 u2 u3 (tpA A ca) (ptO p)).put (some d1) (tpA A ca)).put (some d2) (.agg #[.int .i64 1, .int .i64 1, .slice A 1 ca])).put (some d3) (.bool true)
theorem anyX {P : Program} {l : List Oper} {Q : Exit → Act → World → Prop} {S : World → Prop} {need : Nat → Bool} (a0 : Act) (V : World) {l0 : Array Bool} (s1 s2 s3 s4 s5 d1 d2 d3 c1 c2 c3 c4 cA : Nat) (lX : Array Bool) (x : ByteArray) (nx nz : Nat)
    (hok : okC l.toArray [c1, c2, c3, c4] cA l0 = true)
    (hS : ∀ W, Below V.heap.size V W → S W)
    (h1 : ∀ u1 u2 u3 u4 u5 W K, Below V.heap.size V W → (∀ g W', OneR W' g (strV x) → Below W.heap.size W W' → K (FC a0 s1 s2 s3 s4 s5 (agO g) u2 u3 u4 u5) W') → wpOp P l.toArray Q c1 K (FC a0 s1 s2 s3 s4 s5 u1 u2 u3 u4 u5) W)
    (h2 : ∀ g u2 u3 u4 u5 W K, K (FC a0 s1 s2 s3 s4 s5 (agO g) (slO W.heap.size) u3 u4 u5) (W.alloc (.cells (cO g) 28)) → wpOp P l.toArray Q c2 K (FC a0 s1 s2 s3 s4 s5 (agO g) u2 u3 u4 u5) W)
    (h3 : ∀ g b u3 u4 u5 W K, Below V.heap.size V W → OneR W g (strV x) → Blk W b 28 (cO g) → (∀ g' W', OneR W' g' (countV nx) → Below W.heap.size W W' → K (FC a0 s1 s2 s3 s4 s5 (agO g) (slO b) (agO g') u4 u5) W') → wpOp P l.toArray Q c3 K (FC a0 s1 s2 s3 s4 s5 (agO g) (slO b) u3 u4 u5) W)
    (h4 : ∀ u1 u2 g' u4 u5 W K, Below V.heap.size V W → OneR W g' (countV nx) → (∀ A ca W', ManyR Val.cs 6 W' A [countV nz] → (∀ a, A = some a → W.heap.size ≤ a.block) → Below W.heap.size W W' → K (FC a0 s1 s2 s3 s4 s5 u1 u2 (agO g') (tpA A ca) u5) W') → wpOp P l.toArray Q c4 K (FC a0 s1 s2 s3 s4 s5 u1 u2 (agO g') u4 u5) W)
    (h5 : ∀ u1 u2 u3 u4 u5 W K, K (FC a0 s1 s2 s3 s4 s5 u1 u2 u3 u4 (ptO W.heap.size)) (W.alloc (.cells #[.int .i64 0, .int .i64 0, .slice none 0 0] 28)) → wpOp P l.toArray Q cA K (FC a0 s1 s2 s3 s4 s5 u1 u2 u3 u4 u5) W)
    (hT : ∀ u1 u2 u3 A ca p W, Below V.heap.size V W → wpAnyN P .any l.toArray Q S (fun _ => true) 2 lX (FX a0 s1 s2 s3 s4 s5 d1 d2 d3 u1 u2 u3 A ca p) W → wpAnyN P .any l.toArray Q S need 5 (lsC [c1, c2, c3, c4] cA l0 4 true) (FC a0 s1 s2 s3 s4 s5 u1 u2 u3 (tpA A ca) (ptO p)) W)
    (hF : ∀ u1 u2 u3 A ca W, Below V.heap.size V W → wpAnyN P .any l.toArray Q S (fun _ => true) 2 lX (FX a0 s1 s2 s3 s4 s5 d1 d2 d3 u1 u2 u3 A ca W.heap.size) (W.alloc (.cells #[.int .i64 0, .int .i64 0, .slice none 0 0] 28)) → wpAnyN P .any l.toArray Q S need 6 (lsC [c1, c2, c3, c4] cA l0 4 false) (FC a0 s1 s2 s3 s4 s5 u1 u2 u3 (tpA A ca) undef) W)
    (hst : FC a0 s1 s2 s3 s4 s5 undef undef undef undef undef = a0)
    (hX : ∀ u1 u2 u3 A ca p W, Below V.heap.size V W → ManyR Val.cs 6 W A [countV nz] → Blk W p 28 #[.int .i64 0, .int .i64 0, .slice none 0 0] → V.heap.size ≤ p → (∀ a, A = some a → a.block ≠ p) → wpAnyN P .any l.toArray Q S (fun _ => true) 2 lX (FX a0 s1 s2 s3 s4 s5 d1 d2 d3 u1 u2 u3 A ca p) W) :
    wpAnyN P .any l.toArray Q S need 10 l0 a0 V :=
  anyC 5 a0 V s1 s2 s3 s4 s5 c1 c2 c3 c4 cA x nx nz hok hS h1 h2 h3 h4 h5
    (fun u1 u2 u3 A ca p W hb hm hp hv hne => hT _ _ _ _ _ _ _ hb (hX _ _ _ _ _ _ _ hb hm hp hv hne))
    (fun u1 u2 u3 A ca W hb hm hlt => hF _ _ _ _ _ _ hb (hX _ _ _ _ _ _ _ (hb.trans (((Below.refl _ W).alloc (Nat.le_refl _) _).mono hb.size)) (hm.next ((Below.refl _ W).alloc (Nat.le_refl _) _)) (Blk.new W 28 _) hb.size fun a ha e => by have := hlt a ha; omega)) hst
end Go.Proofs.YtdmbppgogdkpdaaGreatDoor
namespace Go.Proofs.YtdmbppgogdkpdaaGreatDoor
open Go.RowKit
structure PS (w0 W : World) (bL : Nat) : Prop where
  below : Below w0.heap.size w0 W
  bl : Blk W bL 31 #[]
  pt : PowT W
  mt : MaxT W
theorem PS.next {w0 W W' : World} {bL : Nat} (h : PS w0 W bL) (b : Below W.heap.size W W') : PS w0 W' bL := ⟨h.below.trans (b.mono h.below.size), h.bl.kept (b.block _ h.bl.lt), h.pt.next b, h.mt.next b⟩
/-- An array of one count, in a box of the law's. -/
structure CntB (W : World) (p : Nat) (A : Option Addr) (ca : Nat) (n : Nat) : Prop where
  blk : Blk W p 28 #[.int .i64 1, .int .i64 1, .slice A 1 ca]
  many : ManyR Val.cs 6 W A [countV n]
theorem CntB.next {W W' : World} {p : Nat} {A : Option Addr} {ca n : Nat} (h : CntB W p A ca n) (b : Below W.heap.size W W') : CntB W' p A ca n := ⟨h.blk.kept (b.block _ h.blk.lt), h.many.next b⟩
theorem PS.drewP {w0 W : World} {bL : Nat} (h : PS w0 W bL) : PS w0 W.drew bL := h.next (Below.refl _ _).drew
theorem CntB.drewC {W : World} {p : Nat} {A : Option Addr} {ca n : Nat} (h : CntB W p A ca n) : CntB W.drew p A ca n := h.next (Below.refl _ _).drew
theorem alc (W : World) (c : Array Value) (T : TypeId) : Below W.heap.size W (W.alloc (.cells c T)) := (Below.refl _ W).alloc (Nat.le_refl _) _
set_option maxRecDepth 100000 in
set_option maxHeartbeats 4000000 in
theorem law_main (t sep : ByteArray) (ht : t.size ≤ 100) (hsm : sep.size ≤ 100) (hs : 1 ≤ sep.size) (w : World) (htab : PowT w) (hmx : MaxT w) :
    Calls Tryz.prog 5 #[.string t, .string sep] w (LawP w) := by
  have hd1 : decide ((100 : Int) < (t.size : Int)) = false := decide_eq_false (by omega)
  have hd2 : decide ((100 : Int) < (sep.size : Int)) = false := decide_eq_false (by omega)
  have hse : sep.toList.isEmpty = false := by
    cases hq : sep.toList with
    | nil =>
      have h1 : sep.data.toList = [] := by rw [← Go.ByteArray.toList_eq]; exact hq
      have h2 : sep.size = 0 := by show sep.data.size = 0; rw [← Array.length_toList, h1]; rfl
      omega
    | cons _ _ => rfl
  have HT := Lib.hid ht
  have HSM := Lib.hid hsm
  have HS := Lib.hid hs
  have HPT := Lib.hid htab
  have HMX := Lib.hid hmx
  clear ht hsm hs htab hmx
  go_enter Tryz.func5, Tryz.ntmps5
  go_wp2_with fail
  refine (AM.awake7 _).mono ?_
  rintro _ w1 ⟨rfl, hb⟩
  have HB1 := Lib.hid hb
  clear hb
  go_wp2_with fail
  clear hd1 hd2 hse
  have HS0 := Lib.hid (show PS w (w1.alloc (.cells #[] 31)) w1.heap.size from
    ⟨HB1.out.trans ((alc w1 #[] 31).mono HB1.out.size), Blk.new w1 31 #[], (HPT.out.next HB1.out).next (alc _ _ _), (HMX.out.next HB1.out).next (alc _ _ _)⟩)
  clear HB1 HPT HMX
  generalize w1.alloc (.cells #[] 31) = V0 at *
  generalize w1.heap.size = bL at *
  obtain ⟨m1, hm1⟩ : ∃ m1, m1 = Lib.countB t sep + 1 := ⟨_, rfl⟩
  have HM1 := Lib.hid hm1
  clear hm1
  have HN := Lib.hid (show Lib.countB t sep ≤ 100 ∧ Lib.countB t sep * sep.size ≤ 100 ∧ (lessB t sep).size + Lib.countB t sep * sep.size = t.size from by
    have h := lessB_size t sep HS.out
    have h2 := Nat.le_mul_of_pos_right (Lib.countB t sep) HS.out
    have h3 := HT.out
    omega)
  refine (text_c t (by have := HT.out; omega) _).mono ?_
  rintro _ w2 ⟨g1, rfl, hO, -, hb⟩
  have S1 := Lib.hid (HS0.out.next hb)
  have O1 := Lib.hid hO
  have HB := Lib.hid hb
  clear hb hO HS0
  go_wp2_with fail
  clear HB
  refine (text_c sep (by have := HSM.out; omega) _).mono ?_
  rintro _ w3 ⟨g2, rfl, hO, -, hb⟩
  have S2 := Lib.hid (S1.out.next hb)
  have O2 := Lib.hid hO
  have HB := Lib.hid hb
  clear hb hO S1
  have O1' := Lib.hid (O1.out.next HB.out)
  clear O1 HB
  have hal := alc w3 #[.int .i64 1, .int .i64 1, .slice (some ⟨g1, 0, none⟩) 1 1, .int .i64 1, .int .i64 1, .slice (some ⟨g2, 0, none⟩) 1 1] 28
  have BG := Lib.hid (Blk.new w3 28 #[.int .i64 1, .int .i64 1, .slice (some ⟨g1, 0, none⟩) 1 1, .int .i64 1, .int .i64 1, .slice (some ⟨g2, 0, none⟩) 1 1])
  have S3 := Lib.hid (S2.out.next hal)
  have O1 := Lib.hid (O1'.out.next hal)
  have O2' := Lib.hid (O2.out.next hal)
  clear hal S2 O1' O2
  go_wp2_with fail
  generalize w3.alloc (.cells #[.int .i64 1, .int .i64 1, .slice (some ⟨g1, 0, none⟩) 1 1, .int .i64 1, .int .i64 1, .slice (some ⟨g2, 0, none⟩) 1 1] 28) = V3 at *
  generalize w3.heap.size = b3 at *
  refine (call2A_c ⟨#[84, 69, 88, 84, 83, 80, 76, 73, 84]⟩ (some ⟨b3, 0, none⟩) 2 2 bL 1 (m1 : Nat) (splitV t sep) V3 S3.out.bl (fun W hW => by rw [HM1.out]; exact libSplit_c t sep (by have := HT.out; omega) (by have := HSM.out; omega) HS.out b3 g1 g2 2 (Nat.le_refl _) W (BG.out.kept (hW.block _ BG.out.lt)) (O1.out.next hW) (O2'.out.next hW) (S3.out.mt.next hW))).mono ?_
  rintro _ w4 ⟨A4, n4, ca4, rfl, hn, hA, -, hb⟩
  have AR := Lib.hid (show ArrR w4 1 m1 A4 n4 (splitV t sep) from by rw [HM1.out]; exact parts_arr t sep (by have := HT.out; omega) HS.out (by have := HN.out.1; omega) hn hA)
  have S4 := Lib.hid (S3.out.next hb)
  clear hn hA hb S3 BG O1 O2'
  have hal := alc w4 #[.int .i64 1, .int .i64 (m1 : Nat), .slice A4 n4 ca4] 28
  have BG := Lib.hid (Blk.new w4 28 #[.int .i64 1, .int .i64 (m1 : Nat), .slice A4 n4 ca4])
  have S5 := Lib.hid (S4.out.next hal)
  have AR5 := Lib.hid (AR.out.next hal)
  clear hal S4 AR
  go_wp2_with fail
  generalize w4.alloc (.cells #[.int .i64 1, .int .i64 (m1 : Nat), .slice A4 n4 ca4] 28) = V5 at *
  generalize w4.heap.size = b5 at *
  refine (call2A_c ⟨#[67, 79, 76, 85, 77, 78, 83]⟩ (some ⟨b5, 0, none⟩) 1 1 bL 1 1 [countV m1] V5 S5.out.bl (fun W hW => libColumns_c 1 m1 A4 n4 ca4 b5 (splitV t sep) W (BG.out.kept (hW.block _ BG.out.lt)) (AR5.out.next hW) (S5.out.pt.next hW))).mono ?_
  rintro _ w6 ⟨A8, n8, ca8, rfl, hn, hA, -, hb⟩
  obtain rfl : 1 = n8 := hn
  have S6 := Lib.hid (S5.out.next hb)
  have hal := alc w6 #[.int .i64 1, .int .i64 1, .slice A8 1 ca8] 28
  have S7 := Lib.hid (S6.out.next hal)
  have C8 := Lib.hid (show CntB (w6.alloc (.cells #[.int .i64 1, .int .i64 1, .slice A8 1 ca8] 28)) w6.heap.size A8 ca8 m1 from ⟨Blk.new w6 28 _, hA.next hal⟩)
  clear hA hb S5 BG AR5 S6 hal
  go_wp2_with fail
  generalize w6.alloc (.cells #[.int .i64 1, .int .i64 1, .slice A8 1 ca8] 28) = V7 at *
  generalize w6.heap.size = p8 at *
  refine (text_c t (by have := HT.out; omega) _).mono ?_
  rintro _ w8 ⟨g1, rfl, hO, -, hb⟩
  have S8 := Lib.hid (S7.out.next hb)
  have O1 := Lib.hid hO
  have HB := Lib.hid hb
  clear hb hO S7
  have C8b := Lib.hid (C8.out.next HB.out)
  clear C8 HB
  go_wp2_with fail
  refine (text_c sep (by have := HSM.out; omega) _).mono ?_
  rintro _ w9 ⟨g2, rfl, hO, -, hb⟩
  have S9 := Lib.hid (S8.out.next hb)
  have O2 := Lib.hid hO
  have HB := Lib.hid hb
  clear hb hO S8
  have C8 := Lib.hid (C8b.out.next HB.out)
  have O1' := Lib.hid (O1.out.next HB.out)
  clear C8b O1 HB
  go_wp2_with fail
  refine (text_c ⟨#[]⟩ (by decide) _).mono ?_
  rintro _ w10 ⟨g3, rfl, hO, -, hb⟩
  have S10 := Lib.hid (S9.out.next hb)
  have O3 := Lib.hid hO
  have HB := Lib.hid hb
  clear hb hO S9
  have C8b := Lib.hid (C8.out.next HB.out)
  have O1 := Lib.hid (O1'.out.next HB.out)
  have O2' := Lib.hid (O2.out.next HB.out)
  clear C8 O1' O2 HB
  have hal := alc w10 #[.int .i64 1, .int .i64 1, .slice (some ⟨g1, 0, none⟩) 1 1, .int .i64 1, .int .i64 1, .slice (some ⟨g2, 0, none⟩) 1 1, .int .i64 1, .int .i64 1, .slice (some ⟨g3, 0, none⟩) 1 1] 28
  have BG := Lib.hid (Blk.new w10 28 #[.int .i64 1, .int .i64 1, .slice (some ⟨g1, 0, none⟩) 1 1, .int .i64 1, .int .i64 1, .slice (some ⟨g2, 0, none⟩) 1 1, .int .i64 1, .int .i64 1, .slice (some ⟨g3, 0, none⟩) 1 1])
  have S11 := Lib.hid (S10.out.next hal)
  have O1' := Lib.hid (O1.out.next hal)
  have O2 := Lib.hid (O2'.out.next hal)
  have O3' := Lib.hid (O3.out.next hal)
  have C8 := Lib.hid (C8b.out.next hal)
  clear hal S10 O1 O2' O3 C8b
  go_wp2_with fail
  generalize w10.alloc (.cells #[.int .i64 1, .int .i64 1, .slice (some ⟨g1, 0, none⟩) 1 1, .int .i64 1, .int .i64 1, .slice (some ⟨g2, 0, none⟩) 1 1, .int .i64 1, .int .i64 1, .slice (some ⟨g3, 0, none⟩) 1 1] 28) = V11 at *
  generalize w10.heap.size = b11 at *
  refine (call2O_c ⟨#[83, 85, 66, 83, 84, 73, 84, 85, 84, 69]⟩ (some ⟨b11, 0, none⟩) 3 3 bL (strV (lessB t sep)) V11 S11.out.bl (fun W hW => AM.subLib_c t sep (by have := HT.out; omega) HS.out (by have := HSM.out; omega) b11 g1 g2 g3 W (BG.out.kept (hW.block _ BG.out.lt)) (O1'.out.next hW) (O2.out.next hW) (O3'.out.next hW) (S11.out.mt.next hW))).mono ?_
  rintro _ w12 ⟨g4, rfl, hO, -, hb⟩
  have S12 := Lib.hid (S11.out.next hb)
  have C8b := Lib.hid (C8.out.next hb)
  have O4 := Lib.hid hO
  clear hO hb S11 BG O1' O2 O3' C8
  have hal := alc w12 #[.int .i64 1, .int .i64 1, .slice (some ⟨g4, 0, none⟩) 1 1] 28
  have BG := Lib.hid (Blk.new w12 28 #[.int .i64 1, .int .i64 1, .slice (some ⟨g4, 0, none⟩) 1 1])
  have S13 := Lib.hid (S12.out.next hal)
  have O4' := Lib.hid (O4.out.next hal)
  have C8 := Lib.hid (C8b.out.next hal)
  clear hal S12 O4 C8b
  go_wp2_with fail
  generalize w12.alloc (.cells #[.int .i64 1, .int .i64 1, .slice (some ⟨g4, 0, none⟩) 1 1] 28) = V13 at *
  generalize w12.heap.size = b13 at *
  refine (call2O_c ⟨#[76, 69, 78]⟩ (some ⟨b13, 0, none⟩) 1 1 bL (countV (lessB t sep).size) V13 S13.out.bl (fun W hW => AM.lenLib_c (lessB t sep) (by have := HN.out.2.2; have := HT.out; omega) b13 g4 W (BG.out.kept (hW.block _ BG.out.lt)) (O4'.out.next hW) (S13.out.pt.next hW))).mono ?_
  rintro _ w14 ⟨g9, rfl, hO, -, hb⟩
  have S14 := Lib.hid (S13.out.next hb)
  have C8b := Lib.hid (C8.out.next hb)
  have hal := alc w14 #[.int .i64 1, .int .i64 1, .slice (some ⟨g9, 0, none⟩) 1 1] 28
  have S15 := Lib.hid (S14.out.next hal)
  have C8' := Lib.hid (C8b.out.next hal)
  have C9 := Lib.hid (show CntB (w14.alloc (.cells #[.int .i64 1, .int .i64 1, .slice (some ⟨g9, 0, none⟩) 1 1] 28)) w14.heap.size (some ⟨g9, 0, none⟩) 1 (lessB t sep).size from ⟨Blk.new w14 28 _, (hO.next hal).many⟩)
  clear hO hb S13 BG O4' C8 S14 C8b hal
  go_wp2_with fail
  generalize w14.alloc (.cells #[.int .i64 1, .int .i64 1, .slice (some ⟨g9, 0, none⟩) 1 1] 28) = V15 at *
  generalize w14.heap.size = p9 at *
  have HL := Lib.hid (show (lessB t sep).size ≤ t.size from by have := HN.out.2.2; omega)
  have S0 := Lib.hid S15.out.drewP
  have C8 := Lib.hid C8'.out.drewC
  have D9 := Lib.hid C9.out.drewC
  clear S15 C8' C9
  have HCC : Hid (∀ W, Below V15.heap.size V15.drew W → AllCells W [(⟨p9, 0, none⟩, .int .i64 1), (⟨p9, 1, none⟩, .int .i64 1), (⟨p9, 2, none⟩, .slice (some ⟨g9, 0, none⟩) 1 1)]) := Lib.hid (fun W hW => by
    have B := (D9.out.next hW).blk
    exact ⟨B.cell 0, B.cell 1, B.cell 2, trivial⟩)
  have HC := HCC.out V15.drew (Below.refl _ _)
  refine region_free _ [0, 1, 2, 6] 10 (by kernel_rfl) (by kernel_rfl) (by kernel_rfl) (by kernel_rfl) (by kernel_rfl) (fun _ _ _ _ _ h => h) HC ?_
  intro hne hu
  simp only [AllCells] at hu
  simp only [pick, List.take_succ_cons, List.take_zero, List.drop_succ_cons, List.drop_zero, List.cons_append, List.nil_append]
  repeat (go_big_quiet_step (fail))
  refine wpQuiet_nil ?_
  clear hne hu
  clear HC
  refine anyX _ _ 63 64 65 67 10 59 68 69 3 4 5 7 11 (lsC [3, 4, 5, 7, 8, 9, 10] 11 (listedAll (Array.replicate 14 false) [0, 1, 2, 6]) 7 true) t t.size (t.size - (lessB t sep).size) (by kernel_rfl) (fun W hW => HCC.out W hW) ?_ ?_ ?_ ?_ ?_ ?_ ?_ (by rfl) ?_
  · intro u1 u2 u3 u4 u5 W K hW hK
    have HK := Lib.hid hK
    clear hK hW
    refine wpOp_of_list rfl ?_
    simp only [FX, FC, agO, slO, tpA, ptO, cO, Act.put, List.setIfInBounds_toArray, List.set_cons_succ, List.set_cons_zero] at ⊢
    go_wp2_with fail
    refine (text_c t (by have := HT.out; omega) W).mono ?_
    rintro _ W' ⟨g, rfl, hO, -, hb⟩
    have k := HK.out g W' hO hb
    clear hO hb
    simp only [FX, FC, agO, slO, tpA, ptO, cO, Act.put, List.setIfInBounds_toArray, List.set_cons_succ, List.set_cons_zero] at k
    go_wp2_with fail
    exact k
  · intro g u2 u3 u4 u5 W K k
    refine wpOp_of_list rfl ?_
    simp only [FX, FC, agO, slO, tpA, ptO, cO, Act.put, List.setIfInBounds_toArray, List.set_cons_succ, List.set_cons_zero] at k ⊢
    go_wp2_with fail
    exact k
  · intro g b u3 u4 u5 W K hW ho hk hK
    have HK := Lib.hid hK
    have HC := Lib.hid (call2O_c ⟨#[76, 69, 78]⟩ (some ⟨b, 0, none⟩) 1 1 bL (countV t.size) W (S0.out.next hW).bl (fun W2 hW2 => AM.lenLib_c t (by have := HT.out; omega) b g W2 (hk.kept (hW2.block _ hk.lt)) (ho.next hW2) ((S0.out.next hW).pt.next hW2)))
    clear hK hW ho hk
    refine wpOp_of_list rfl ?_
    simp only [FX, FC, agO, slO, tpA, ptO, cO, Act.put, List.setIfInBounds_toArray, List.set_cons_succ, List.set_cons_zero] at ⊢
    go_wp2_with fail
    refine HC.out.mono ?_
    rintro _ W' ⟨g', rfl, hO, -, hb⟩
    have k := HK.out g' W' hO hb
    clear hO hb
    simp only [FX, FC, agO, slO, tpA, ptO, cO, Act.put, List.setIfInBounds_toArray, List.set_cons_succ, List.set_cons_zero] at k
    go_wp2_with fail
    exact k
  · intro u1 u2 g' u4 u5 W K hW ho hK
    have HK := Lib.hid hK
    have HC := Lib.hid (subLost_c (by have := HT.out; omega) HL.out (some ⟨g', 0, none⟩) (some ⟨g9, 0, none⟩) 1 1 W ho.many (D9.out.next hW).many (S0.out.next hW).pt)
    clear hK hW ho
    refine wpOp_of_list rfl ?_
    simp only [FX, FC, agO, slO, tpA, ptO, cO, Act.put, List.setIfInBounds_toArray, List.set_cons_succ, List.set_cons_zero] at ⊢
    go_wp2_with fail
    refine HC.out.mono ?_
    rintro _ W' ⟨A, n, ca, rfl, hn, hA, hF, hb⟩
    obtain rfl : 1 = n := hn
    have k := HK.out A ca W' hA hF hb
    clear hA hF hb
    simp only [FX, FC, agO, slO, tpA, ptO, cO, Act.put, List.setIfInBounds_toArray, List.set_cons_succ, List.set_cons_zero] at k
    go_wp2_with fail
    exact k
  · intro u1 u2 u3 u4 u5 W K k
    refine wpOp_of_list rfl ?_
    simp only [FX, FC, agO, slO, tpA, ptO, cO, Act.put, List.setIfInBounds_toArray, List.set_cons_succ, List.set_cons_zero] at k ⊢
    go_wp2_with fail
    exact k
  · intro u1 u2 u3 A ca p W hb k
    have HC := HCC.out W hb
    simp only [FX, FC, agO, slO, tpA, ptO, cO, Act.put, List.setIfInBounds_toArray, List.set_cons_succ, List.set_cons_zero] at k ⊢
    refine anyN_more [8, 9, 10] 2 (by kernel_rfl) (by kernel_rfl) (by kernel_rfl) (by kernel_rfl) (fun _ _ _ _ _ h => h) HC ?_
    intro hne hu
    simp only [AllCells] at hu
    simp only [pick, List.take_succ_cons, List.take_zero, List.drop_succ_cons, List.drop_zero, List.cons_append, List.nil_append]
    repeat (go_big_quiet_step (fail))
    refine wpQuiet_nil ?_
    clear hne hu
    exact k
  · intro u1 u2 u3 A ca W hb k
    have HC := HCC.out W hb
    have hal := alc W #[.int .i64 0, .int .i64 0, .slice none 0 0] 28
    have HC2 := HCC.out _ (hb.trans (hal.mono hb.size))
    simp only [FX, FC, agO, slO, tpA, ptO, cO, Act.put, List.setIfInBounds_toArray, List.set_cons_succ, List.set_cons_zero] at k ⊢
    refine anyN_more [8, 9, 10] 3 (by kernel_rfl) (by kernel_rfl) (by kernel_rfl) (by kernel_rfl) (fun _ _ _ _ _ h => h) HC ?_
    intro hne hu
    simp only [AllCells] at hu
    simp only [pick, List.take_succ_cons, List.take_zero, List.drop_succ_cons, List.drop_zero, List.cons_append, List.nil_append]
    repeat (go_big_quiet_step (fail))
    refine wpQuiet_nil ?_
    clear hne hu
    refine anyN_oneL 11 (by kernel_rfl) ?_
    simp only [List.take_succ_cons, List.take_zero, List.drop_succ_cons, List.drop_zero]
    go_wp2_with fail
    refine And.intro (fun _ => HC2) ?_
    exact k
  intro u1 u2 u3 A10 ca10 p10 W hb hm hp hv hne
  simp only [FX, FC, agO, slO, tpA, ptO, cO, Act.put, List.setIfInBounds_toArray, List.set_cons_succ, List.set_cons_zero] at ⊢
  refine anyN_oneL 12 (by kernel_rfl) ?_
  simp only [List.take_succ_cons, List.take_zero, List.drop_succ_cons, List.drop_zero]
  have BP := Lib.hid hp
  have HQ := Lib.hid hb
  have HV := Lib.hid hv
  have HNE := Lib.hid hne
  have HMM := Lib.hid hm
  clear hb hm hp hv hne
  have d0 := BP.out.cell 0
  have d1 := BP.out.cell 1
  have d2 := BP.out.cell 2
  simp only [List.getElem?_toArray, List.getElem?_cons_zero, List.getElem?_cons_succ] at d0 d1 d2
  have f0 := BP.out.frozen 0
  have f1 := BP.out.frozen 1
  have f2 := BP.out.frozen 2
  have lX := BP.out.lt
  go_wp2_with fail
  change (_ → AllCells (put3 W p10 (.int .i64 1) (.int .i64 1) (.slice A10 1 ca10)) _) ∧ wpAnyN _ _ _ _ _ _ _ _ _ (put3 W p10 (.int .i64 1) (.int .i64 1) (.slice A10 1 ca10))
  clear d0 d1 d2 f0 f1 f2 lX
  have B2 := Lib.hid (below_put3 HQ.out HV.out (.int .i64 1) (.int .i64 1) (.slice A10 1 ca10))
  have C10 := Lib.hid (show CntB (put3 W p10 (.int .i64 1) (.int .i64 1) (.slice A10 1 ca10)) p10 A10 ca10 (t.size - (lessB t sep).size) from ⟨blk_put3 BP.out (.int .i64 1) (.int .i64 1) (.slice A10 1 ca10), manyR_put3 HMM.out HNE.out (.int .i64 1) (.int .i64 1) (.slice A10 1 ca10)⟩)
  clear BP HQ HV HNE HMM
  generalize put3 W p10 (.int .i64 1) (.int .i64 1) (.slice A10 1 ca10) = W1 at *
  refine And.intro (fun _ => HCC.out W1 B2.out) ?_
  refine anyN_oneL 13 (by kernel_rfl) ?_
  simp only [List.take_succ_cons, List.take_zero, List.drop_succ_cons, List.drop_zero]
  go_wp2_with fail
  refine And.intro (fun _ => HCC.out W1 B2.out) ?_
  refine ⟨by kernel_rfl, ?_⟩
  have S1 := Lib.hid (S0.out.next B2.out)
  have C8' := Lib.hid (C8.out.next B2.out)
  clear S0 C8 D9 B2 HCC
  go_wp2_with fail
  refine (one09_c oneNum oneNum_right oneNum_fits W1).mono ?_
  rintro _ w2 ⟨g12, rfl, hO, -, hb⟩
  have S2 := Lib.hid (S1.out.next hb)
  have C8 := Lib.hid (C8'.out.next hb)
  have C10' := Lib.hid (C10.out.next hb)
  have O12 := Lib.hid hO
  clear hO hb S1 C8' C10
  have hal := alc w2 #[.int .i64 1, .int .i64 1, .slice (some ⟨g12, 0, none⟩) 1 1] 28
  have S3 := Lib.hid (S2.out.next hal)
  have C8' := Lib.hid (C8.out.next hal)
  have C10 := Lib.hid (C10'.out.next hal)
  have C12 := Lib.hid (Blk.new w2 28 #[.int .i64 1, .int .i64 1, .slice (some ⟨g12, 0, none⟩) 1 1])
  have O12' := Lib.hid (O12.out.next hal)
  clear hal S2 C8 C10' O12
  have B8 := Lib.hid C8'.out.blk
  have e0 := B8.out.cell 0
  have e1 := B8.out.cell 1
  have e2 := B8.out.cell 2
  simp only [List.getElem?_toArray, List.getElem?_cons_zero, List.getElem?_cons_succ] at e0 e1 e2
  have h0 := C12.out.cell 0
  have h1 := C12.out.cell 1
  have h2 := C12.out.cell 2
  simp only [List.getElem?_toArray, List.getElem?_cons_zero, List.getElem?_cons_succ] at h0 h1 h2
  clear B8
  go_wp2_with fail
  clear e0 e1 e2 h0 h1 h2
  generalize w2.alloc (.cells #[.int .i64 1, .int .i64 1, .slice (some ⟨g12, 0, none⟩) 1 1] 28) = V3' at *
  generalize w2.heap.size = p12 at *
  refine (subBefore_c (m := Lib.countB t sep) HN.out.1 A8 (some ⟨g12, 0, none⟩) ca8 1 V3' (by rw [← HM1.out]; exact C8'.out.many) O12'.out.many S3.out.pt).mono ?_
  rintro _ w4 ⟨A13, n13, ca13, rfl, hn, hA, -, hb⟩
  obtain rfl : 1 = n13 := hn
  have S4 := Lib.hid (S3.out.next hb)
  have C10' := Lib.hid (C10.out.next hb)
  have hal := alc w4 #[.int .i64 1, .int .i64 1, .slice A13 1 ca13] 28
  have S5 := Lib.hid ((S4.out.next hal).drewP)
  have C10 := Lib.hid ((C10'.out.next hal).drewC)
  have C13 := Lib.hid ((show CntB (w4.alloc (.cells #[.int .i64 1, .int .i64 1, .slice A13 1 ca13] 28)) w4.heap.size A13 ca13 (Lib.countB t sep) from ⟨Blk.new w4 28 _, hA.next hal⟩).drewC)
  clear hA hb hal S3 C8' C12 O12' S4 C10'
  go_wp2_with fail
  generalize w4.alloc (.cells #[.int .i64 1, .int .i64 1, .slice A13 1 ca13] 28) = V5' at *
  generalize w4.heap.size = p13 at *
  have HCC : Hid (∀ W, Below V5'.heap.size V5'.drew W → AllCells W [(⟨p13, 0, none⟩, .int .i64 1), (⟨p13, 1, none⟩, .int .i64 1), (⟨p13, 2, none⟩, .slice A13 1 ca13)]) := Lib.hid (fun W hW => by
    have B := (C13.out.next hW).blk
    exact ⟨B.cell 0, B.cell 1, B.cell 2, trivial⟩)
  have HC := HCC.out V5'.drew (Below.refl _ _)
  refine region_free _ [0, 1, 2, 3] 10 (by kernel_rfl) (by kernel_rfl) (by kernel_rfl) (by kernel_rfl) (by kernel_rfl) (fun _ _ _ _ _ h => h) HC ?_
  intro hne hu
  simp only [AllCells] at hu
  simp only [pick, List.take_succ_cons, List.take_zero, List.drop_succ_cons, List.drop_zero, List.cons_append, List.nil_append]
  repeat (go_big_quiet_step (fail))
  refine wpQuiet_nil ?_
  clear hne hu
  clear HC
  refine anyX _ _ 84 85 86 87 15 79 88 89 4 5 6 7 11 (lsC [4, 5, 6, 7, 8, 9, 10] 11 (listedAll (Array.replicate 14 false) [0, 1, 2, 3]) 7 true) sep sep.size (Lib.countB t sep * sep.size) (by kernel_rfl) (fun W hW => HCC.out W hW) ?_ ?_ ?_ ?_ ?_ ?_ ?_ (by rfl) ?_
  · intro u1 u2 u3 u4 u5 W K hW hK
    have HK := Lib.hid hK
    clear hK hW
    refine wpOp_of_list rfl ?_
    simp only [FX, FC, agO, slO, tpA, ptO, cO, Act.put, List.setIfInBounds_toArray, List.set_cons_succ, List.set_cons_zero] at ⊢
    go_wp2_with fail
    refine (text_c sep (by have := HSM.out; omega) W).mono ?_
    rintro _ W' ⟨g, rfl, hO, -, hb⟩
    have k := HK.out g W' hO hb
    clear hO hb
    simp only [FX, FC, agO, slO, tpA, ptO, cO, Act.put, List.setIfInBounds_toArray, List.set_cons_succ, List.set_cons_zero] at k
    go_wp2_with fail
    exact k
  · intro g u2 u3 u4 u5 W K k
    refine wpOp_of_list rfl ?_
    simp only [FX, FC, agO, slO, tpA, ptO, cO, Act.put, List.setIfInBounds_toArray, List.set_cons_succ, List.set_cons_zero] at k ⊢
    go_wp2_with fail
    exact k
  · intro g b u3 u4 u5 W K hW ho hk hK
    have HK := Lib.hid hK
    have HC := Lib.hid (call2O_c ⟨#[76, 69, 78]⟩ (some ⟨b, 0, none⟩) 1 1 bL (countV sep.size) W (S5.out.next hW).bl (fun W2 hW2 => AM.lenLib_c sep (by have := HSM.out; omega) b g W2 (hk.kept (hW2.block _ hk.lt)) (ho.next hW2) ((S5.out.next hW).pt.next hW2)))
    clear hK hW ho hk
    refine wpOp_of_list rfl ?_
    simp only [FX, FC, agO, slO, tpA, ptO, cO, Act.put, List.setIfInBounds_toArray, List.set_cons_succ, List.set_cons_zero] at ⊢
    go_wp2_with fail
    refine HC.out.mono ?_
    rintro _ W' ⟨g', rfl, hO, -, hb⟩
    have k := HK.out g' W' hO hb
    clear hO hb
    simp only [FX, FC, agO, slO, tpA, ptO, cO, Act.put, List.setIfInBounds_toArray, List.set_cons_succ, List.set_cons_zero] at k
    go_wp2_with fail
    exact k
  · intro u1 u2 g' u4 u5 W K hW ho hK
    have HK := Lib.hid hK
    have HC := Lib.hid (mulWant_c HN.out.1 HSM.out HN.out.2.1 A13 (some ⟨g', 0, none⟩) ca13 1 W (C13.out.next hW).many ho.many (S5.out.next hW).pt)
    clear hK hW ho
    refine wpOp_of_list rfl ?_
    simp only [FX, FC, agO, slO, tpA, ptO, cO, Act.put, List.setIfInBounds_toArray, List.set_cons_succ, List.set_cons_zero] at ⊢
    go_wp2_with fail
    refine HC.out.mono ?_
    rintro _ W' ⟨A, n, ca, rfl, hn, hA, hF, hb⟩
    obtain rfl : 1 = n := hn
    have k := HK.out A ca W' hA hF hb
    clear hA hF hb
    simp only [FX, FC, agO, slO, tpA, ptO, cO, Act.put, List.setIfInBounds_toArray, List.set_cons_succ, List.set_cons_zero] at k
    go_wp2_with fail
    exact k
  · intro u1 u2 u3 u4 u5 W K k
    refine wpOp_of_list rfl ?_
    simp only [FX, FC, agO, slO, tpA, ptO, cO, Act.put, List.setIfInBounds_toArray, List.set_cons_succ, List.set_cons_zero] at k ⊢
    go_wp2_with fail
    exact k
  · intro u1 u2 u3 A ca p W hb k
    have HC := HCC.out W hb
    simp only [FX, FC, agO, slO, tpA, ptO, cO, Act.put, List.setIfInBounds_toArray, List.set_cons_succ, List.set_cons_zero] at k ⊢
    refine anyN_more [8, 9, 10] 2 (by kernel_rfl) (by kernel_rfl) (by kernel_rfl) (by kernel_rfl) (fun _ _ _ _ _ h => h) HC ?_
    intro hne hu
    simp only [AllCells] at hu
    simp only [pick, List.take_succ_cons, List.take_zero, List.drop_succ_cons, List.drop_zero, List.cons_append, List.nil_append]
    repeat (go_big_quiet_step (fail))
    refine wpQuiet_nil ?_
    clear hne hu
    exact k
  · intro u1 u2 u3 A ca W hb k
    have HC := HCC.out W hb
    have hal := alc W #[.int .i64 0, .int .i64 0, .slice none 0 0] 28
    have HC2 := HCC.out _ (hb.trans (hal.mono hb.size))
    simp only [FX, FC, agO, slO, tpA, ptO, cO, Act.put, List.setIfInBounds_toArray, List.set_cons_succ, List.set_cons_zero] at k ⊢
    refine anyN_more [8, 9, 10] 3 (by kernel_rfl) (by kernel_rfl) (by kernel_rfl) (by kernel_rfl) (fun _ _ _ _ _ h => h) HC ?_
    intro hne hu
    simp only [AllCells] at hu
    simp only [pick, List.take_succ_cons, List.take_zero, List.drop_succ_cons, List.drop_zero, List.cons_append, List.nil_append]
    repeat (go_big_quiet_step (fail))
    refine wpQuiet_nil ?_
    clear hne hu
    refine anyN_oneL 11 (by kernel_rfl) ?_
    simp only [List.take_succ_cons, List.take_zero, List.drop_succ_cons, List.drop_zero]
    go_wp2_with fail
    refine And.intro (fun _ => HC2) ?_
    exact k
  intro v1 v2 v3 A15 ca15 p15 W hb hm hp hv hne
  simp only [FX, FC, agO, slO, tpA, ptO, cO, Act.put, List.setIfInBounds_toArray, List.set_cons_succ, List.set_cons_zero] at ⊢
  refine anyN_oneL 12 (by kernel_rfl) ?_
  simp only [List.take_succ_cons, List.take_zero, List.drop_succ_cons, List.drop_zero]
  have BP := Lib.hid hp
  have HQ := Lib.hid hb
  have HV := Lib.hid hv
  have HNE := Lib.hid hne
  have HMM := Lib.hid hm
  clear hb hm hp hv hne
  have d0 := BP.out.cell 0
  have d1 := BP.out.cell 1
  have d2 := BP.out.cell 2
  simp only [List.getElem?_toArray, List.getElem?_cons_zero, List.getElem?_cons_succ] at d0 d1 d2
  have f0 := BP.out.frozen 0
  have f1 := BP.out.frozen 1
  have f2 := BP.out.frozen 2
  have lX := BP.out.lt
  go_wp2_with fail
  change (_ → AllCells (put3 W p15 (.int .i64 1) (.int .i64 1) (.slice A15 1 ca15)) _) ∧ wpAnyN _ _ _ _ _ _ _ _ _ (put3 W p15 (.int .i64 1) (.int .i64 1) (.slice A15 1 ca15))
  clear d0 d1 d2 f0 f1 f2 lX
  have B2 := Lib.hid (below_put3 HQ.out HV.out (.int .i64 1) (.int .i64 1) (.slice A15 1 ca15))
  have C15 := Lib.hid (show CntB (put3 W p15 (.int .i64 1) (.int .i64 1) (.slice A15 1 ca15)) p15 A15 ca15 (Lib.countB t sep * sep.size) from ⟨blk_put3 BP.out (.int .i64 1) (.int .i64 1) (.slice A15 1 ca15), manyR_put3 HMM.out HNE.out (.int .i64 1) (.int .i64 1) (.slice A15 1 ca15)⟩)
  clear BP HQ HV HNE HMM
  generalize put3 W p15 (.int .i64 1) (.int .i64 1) (.slice A15 1 ca15) = W5 at *
  refine And.intro (fun _ => HCC.out W5 B2.out) ?_
  refine anyN_oneL 13 (by kernel_rfl) ?_
  simp only [List.take_succ_cons, List.take_zero, List.drop_succ_cons, List.drop_zero]
  go_wp2_with fail
  refine And.intro (fun _ => HCC.out W5 B2.out) ?_
  refine ⟨by kernel_rfl, ?_⟩
  have S6 := Lib.hid (S5.out.next B2.out)
  have C10' := Lib.hid (C10.out.next B2.out)
  clear S5 C10 C13 B2 HCC
  have HEQ := Lib.hid (show t.size - (lessB t sep).size = Lib.countB t sep * sep.size from by have := HN.out.2.2; omega)
  obtain ⟨gA, oA, rfl, lA, cA⟩ := C10'.out.many (by simp)
  have k0 := cA 0 (by simp) 0 (.int .i64 1) rfl
  simp only [Nat.zero_mul, Nat.add_zero] at k0
  have HSM2 := Lib.hid (same_c 1 1 1 1 (some ⟨gA, oA, none⟩) A15 1 ca10 1 ca15 _ _ W5 C10'.out.many C15.out.many rfl rfl (by decide))
  clear cA
  have BA := Lib.hid C10'.out.blk
  have BB := Lib.hid C15.out.blk
  have d0 := BA.out.cell 0
  have d1 := BA.out.cell 1
  have d2 := BA.out.cell 2
  simp only [List.getElem?_toArray, List.getElem?_cons_zero, List.getElem?_cons_succ] at d0 d1 d2
  have e0 := BB.out.cell 0
  have e1 := BB.out.cell 1
  have e2 := BB.out.cell 2
  simp only [List.getElem?_toArray, List.getElem?_cons_zero, List.getElem?_cons_succ] at e0 e1 e2
  go_wp2_with fail
  refine HSM2.out.mono ?_
  rintro _ W9 ⟨b9, rfl, r9, hb9⟩
  obtain rfl : b9 = true := r9.2 ⟨rfl, rfl, by rw [HEQ.out]⟩
  have HE := Lib.hid (S6.out.below.trans (hb9.mono S6.out.below.size))
  clear r9 hb9 d0 d1 d2 e0 e1 e2 k0
  go_wp2_with fail
  go_ret
  exact ⟨rfl, HE.out⟩
end Go.Proofs.YtdmbppgogdkpdaaGreatDoor
namespace Go.Proofs.YtdmbppgogdkpdaaGreatDoor
open Go.RowKit
set_option maxRecDepth 100000 in
set_option maxHeartbeats 4000000 in
theorem skip_long (t sep : ByteArray) (w : World) (hd1 : decide ((100 : Int) < (t.size : Int)) = true) : Calls Tryz.prog 5 #[.string t, .string sep] w (LawP w) := by
  go_enter Tryz.func5, Tryz.ntmps5
  go_wp2_with fail
  refine (AM.awake7 _).mono ?_
  rintro _ w1 ⟨rfl, hb⟩
  have HB1 := Lib.hid hb
  clear hb
  go_wp2_with fail
  go_ret
  exact ⟨rfl, HB1.out⟩
set_option maxRecDepth 100000 in
set_option maxHeartbeats 4000000 in
theorem skip_sep (t sep : ByteArray) (w : World) (hd1 : decide ((100 : Int) < (t.size : Int)) = false) (hd2 : decide ((100 : Int) < (sep.size : Int)) = true) : Calls Tryz.prog 5 #[.string t, .string sep] w (LawP w) := by
  go_enter Tryz.func5, Tryz.ntmps5
  go_wp2_with fail
  refine (AM.awake7 _).mono ?_
  rintro _ w1 ⟨rfl, hb⟩
  have HB1 := Lib.hid hb
  clear hb
  go_wp2_with fail
  go_ret
  exact ⟨rfl, HB1.out⟩
set_option maxRecDepth 100000 in
set_option maxHeartbeats 4000000 in
theorem skip_empty (t sep : ByteArray) (w : World) (hd1 : decide ((100 : Int) < (t.size : Int)) = false) (hd2 : decide ((100 : Int) < (sep.size : Int)) = false) (hse : sep.toList.isEmpty = true) : Calls Tryz.prog 5 #[.string t, .string sep] w (LawP w) := by
  go_enter Tryz.func5, Tryz.ntmps5
  go_wp2_with fail
  refine (AM.awake7 _).mono ?_
  rintro _ w1 ⟨rfl, hb⟩
  have HB1 := Lib.hid hb
  clear hb
  go_wp2_with fail
  go_ret
  exact ⟨rfl, HB1.out⟩
theorem law5_c (t sep : ByteArray) (w : World) (htab : PowT w) (hmx : MaxT w) : Calls Tryz.prog 5 #[.string t, .string sep] w (LawP w) := by
  by_cases h1 : t.size ≤ 100
  · by_cases h2 : sep.size ≤ 100
    · by_cases h3 : 1 ≤ sep.size
      · exact law_main t sep h1 h2 h3 w htab hmx
      · refine skip_empty t sep w (decide_eq_false (by omega)) (decide_eq_false (by omega)) ?_
        have h0 : sep.data.toList = [] := by
          have : sep.data.size = 0 := by
            have h4 : sep.data.size = sep.size := rfl
            omega
          rw [← Array.length_toList] at this
          exact List.length_eq_zero_iff.1 this
        have h5 : sep.toList = [] := by rw [Go.ByteArray.toList_eq, h0]
        rw [h5]
        rfl
    · exact skip_sep t sep w (decide_eq_false (by omega)) (decide_eq_true (by omega))
  · exact skip_long t sep w (decide_eq_true (by omega))
end Go.Proofs.YtdmbppgogdkpdaaGreatDoor
