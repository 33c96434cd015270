/-
  slices.swapRangeCmpFunc, rotateCmpFunc at ints: their contracts. Condition: the slice lies in a block of its own.
-/
import Derived.Test.YtifdpcjfjoekmaaA7
import Derived.Test.YtifdpcjfjoekmaaA10
namespace Go.Proofs.Ytifdpcjfjoekmaa
open Go.RowKit

/-- All but one block lies as it lay. -/
structure Off (g : Nat) (w W : World) : Prop where
  os : W.os = w.os
  tape : W.tape = w.tape
  output : W.output = w.output
  size : w.heap.size ≤ W.heap.size
  block : ∀ k, k < w.heap.size → k ≠ g → W.heap[k]? = w.heap[k]?
section
variable {g : Nat} {w W W' : World}
theorem Off.refl (g : Nat) (w : World) : Off g w w := ⟨rfl, rfl, rfl, Nat.le_refl _, fun _ _ _ => rfl⟩
theorem Off.next (h : Off g w W) (b : Below W.heap.size W W') : Off g w W' :=
  ⟨b.os.trans h.os, b.tape.trans h.tape, b.output.trans h.output, Nat.le_trans h.size b.size, fun k hk hg => (b.block k (Nat.lt_of_lt_of_le hk h.size)).trans (h.block k hk hg)⟩
theorem Off.set (h : Off g w W) (p : Nat) (v : Value) : Off g w (W.setCell ⟨g, p, none⟩ v) :=
  ⟨h.os, h.tape, h.output, by simpa [World.setCell] using h.size, fun k hk hg => (Below.heap_setCell W ⟨g, p, none⟩ v k hg).trans (h.block k hk hg)⟩
theorem Off.blk (h : Off g w W) {k : Nat} {e : TypeId} {cs : Array Value} (b : Blk w k e cs) (hk : k ≠ g) : Blk W k e cs := b.kept (h.block k b.lt hk)
end
def natA (d : List Nat) : Array Value := (d.map fun (x : Nat) => Value.int .i64 (x : Int)).toArray
/-- The slice's block holds d. -/
structure SS (w : World) (g n : Nat) (W : World) (d : List Nat) : Prop where
  off : Off g w W
  blk : Blk W g 3 (natA d)
  len : d.length = n
section
variable {w W W' : World} {g n : Nat} {d : List Nat}
theorem SS.next (h : SS w g n W d) (b : Below W.heap.size W W') : SS w g n W' d := ⟨h.off.next b, h.blk.kept (b.block _ h.blk.lt), h.len⟩
theorem SS.cell (h : SS w g n W d) {p : Nat} (hp : p < n) : W.cell? ⟨g, p, none⟩ = some (.int .i64 (D d p)) := by
  rw [h.blk.cell p]
  have : p < d.length := by rw [h.len]; exact hp
  simp [natA, D_get this]
theorem natA_set (d : List Nat) (p v : Nat) : (natA d).setIfInBounds p (.int .i64 v) = natA (d.set p v) := by
  simp [natA, List.map_set]
theorem SS.set (h : SS w g n W d) (p v : Nat) : SS w g n (W.setCell ⟨g, p, none⟩ (.int .i64 v)) (d.set p v) :=
  ⟨h.off.set p _, by have := h.blk.store p (.int .i64 v); rw [natA_set] at this; exact this, by rw [List.length_set, h.len]⟩
theorem SS.swap (h : SS w g n W d) (p q : Nat) : SS w g n ((W.setCell ⟨g, p, none⟩ (.int .i64 (D d q))).setCell ⟨g, q, none⟩ (.int .i64 (D d p))) (swapAt d p q) := (h.set p (D d q)).set q (D d p)
end

def SwapP (w : World) (g n : Nat) (d : List Nat) (a b k : Nat) (e : Ending) (w' : World) : Prop := e = .returned (.tuple #[]) ∧ ∃ d', SS w g n w' d' ∧ SwapR d d' a b k
set_option maxRecDepth 100000 in
set_option maxHeartbeats 4000000 in
theorem swapr_c (w : World) (g n cap a b k : Nat) (fv : Value) (d : List Nat) (W : World) (h : SS w g n W d) (hab : a + k ≤ b) (hb : b + k ≤ n) (hn : n ≤ 1000000) :
    Calls Try.prog 44 #[.slice (some ⟨g, 0, none⟩) n cap, .int .i64 a, .int .i64 b, .int .i64 k, fv] W (SwapP w g n d a b k) := by
  have H := Lib.hid h
  clear h
  go_enter Try.func44, Try.ntmps44
  go_wp2_with fail
  go_loopw [10] (fun i wr => ∃ j : Nat, j ≤ k ∧ i = .int .i64 j ∧ Hid (∃ d', SS w g n wr d' ∧ SwapR d d' a b j)) (fun i _ => k - (intOf i).toNat)
  case atStart => exact ⟨0, Nat.zero_le _, rfl, ⟨d, H.out, SwapR.zero d a b⟩⟩
  case round =>
    obtain ⟨j, hj, rfl, hS⟩ := hrel
    by_cases hlt : j < k
    · obtain ⟨d', S, R⟩ := hS.out
      have hl : d.length = n := H.out.len
      have ca := S.cell (p := a + j) (by omega)
      have cb := S.cell (p := b + j) (by omega)
      have fa := S.blk.frozen (a + j)
      have fb := S.blk.frozen (b + j)
      have lg := S.blk.lt
      have HS := Lib.hid (show ∃ e, SS w g n ((wr.setCell ⟨g, a + j, none⟩ (.int .i64 (D d' (b + j)))).setCell ⟨g, b + j, none⟩ (.int .i64 (D d' (a + j)))) e ∧ SwapR d e a b (j + 1) from ⟨_, S.swap (a + j) (b + j), R.step (by omega) (by rw [hl]; omega)⟩)
      clear S R hS H hl
      generalize D d' (a + j) = va at *
      generalize D d' (b + j) = vb at *
      have HC : AllCells wr.drew [(⟨g, a + j, none⟩, .int .i64 va), (⟨g, b + j, none⟩, .int .i64 vb)] := ⟨ca, cb, trivial⟩
      have s1 : IntKind.i64.wrap ((a : Int) + (j : Int)) = (a : Int) + (j : Int) := IntWalk.i64_in _ (by omega)
      have s2 : IntKind.i64.wrap ((b : Int) + (j : Int)) = (b : Int) + (j : Int) := IntWalk.i64_in _ (by omega)
      have t1 : ((a : Int) + (j : Int)).toNat = a + j := by omega
      have t2 : ((b : Int) + (j : Int)).toNat = b + j := by omega
      have z1 : (0 : Int) ≤ (a : Int) + (j : Int) := by omega
      have z2 : (0 : Int) ≤ (b : Int) + (j : Int) := by omega
      have y1 : (a : Int) + (j : Int) < (n : Int) := by omega
      have y2 : (b : Int) + (j : Int) < (n : Int) := by omega
      have hjn : (j : Int) < (k : Int) := by omega
      have hab' : a + j ≠ b + j := by omega
      have HAB := Lib.hid hab'
      clear hab'
      go_wp2_with fail
      refine region_free [] [0, 1, 2, 3, 4, 5, 6, 7, 8, 9, 10, 11, 12, 14, 15, 16, 17, 18] 6 (by kernel_rfl) (by kernel_rfl) (by kernel_rfl) (by kernel_rfl) (by kernel_rfl) (fun _ _ _ _ _ h => h) trivial ?_
      intro hne hu
      simp only [AllCells] at hu
      simp only [pick, List.take_succ_cons, List.take_zero, List.drop_succ_cons, List.drop_zero, List.cons_append, List.nil_append]
      repeat (go_big_quiet_step (fail))
      refine wpQuiet_nil ?_
      clear hne hu
      refine anyN_again [(⟨g, a + j, none⟩, .int .i64 va), (⟨g, b + j, none⟩, .int .i64 vb)] [13, 19] [0, 1, 2, 3, 4, 5, 6, 7, 8, 9, 10, 11, 12, 13, 14, 15, 16, 17, 18, 19] 4 (by kernel_rfl) (by kernel_rfl) (by kernel_rfl) (by kernel_rfl) (by kernel_rfl) (fun _ _ _ _ _ h => h) HC ?_
      intro hne hu
      simp only [AllCells] at hu
      simp only [pick, List.take_succ_cons, List.take_zero, List.drop_succ_cons, List.drop_zero, List.cons_append, List.nil_append]
      repeat (go_big_quiet_step (fail))
      refine wpQuiet_nil ?_
      clear hne hu
      refine anyN_restL 20 (by kernel_rfl) (by decide) (by kernel_rfl) ?_
      simp only [List.take_succ_cons, List.take_zero, List.drop_succ_cons, List.drop_zero]
      go_wp2_with fail
      clear HC
      go_roundw
      case rel =>
        refine ⟨j + 1, by omega, by go_num, ?_⟩
        obtain ⟨e, S', R'⟩ := HS.out
        exact ⟨e, S'.next ((Below.refl _ _).drew), R'⟩
      case measure => simp [intOf]; omega
    · have hjj : j = k := by omega
      subst hjj
      have hjn : ¬ ((j : Int) < (j : Int)) := by omega
      go_wp2_with fail
      go_end0
      exact ⟨rfl, hS.out⟩

def RotP (w : World) (g n : Nat) (d : List Nat) (a m b : Nat) (e : Ending) (w' : World) : Prop := e = .returned (.tuple #[]) ∧ ∃ d', SS w g n w' d' ∧ Rot d d' a m b
set_option maxRecDepth 100000 in
set_option maxHeartbeats 4000000 in
theorem rotate_c (w : World) (g n cap a m b : Nat) (fv : Value) (d : List Nat) (W : World) (h : SS w g n W d) (h1 : a < m) (h2 : m < b) (hb : b ≤ n) (hn : n ≤ 1000000) :
    Calls Try.prog 36 #[.slice (some ⟨g, 0, none⟩) n cap, .int .i64 a, .int .i64 m, .int .i64 b, fv] W (RotP w g n d a m b) := by
  have H := Lib.hid h
  clear h
  have e1 : (m : Int) - (a : Int) = ((m - a : Nat) : Int) := by omega
  have e2 : (b : Int) - (m : Int) = ((b - m : Nat) : Int) := by omega
  have HE1 := Lib.hid e1
  have HE2 := Lib.hid e2
  clear e1 e2
  go_enter Try.func36, Try.ntmps36
  go_wp2_with fail
  go_loopw [10, 11] (fun i j wr => ∃ (x y : Nat), i = .int .i64 x ∧ j = .int .i64 y ∧ 0 < x ∧ 0 < y ∧ x ≤ m - a ∧ y ≤ b - m ∧ Hid (∃ d', SS w g n wr d' ∧ ∀ d2, Rot d' d2 (m - x) m (m + y) → Rot d d2 a m b)) (fun i j _ => (intOf i).toNat + (intOf j).toNat)
  case atStart =>
    refine ⟨m - a, b - m, by rw [HE1.out], by rw [HE2.out], by omega, by omega, Nat.le_refl _, Nat.le_refl _, ⟨d, H.out, fun d2 r => ?_⟩⟩
    rw [show m - (m - a) = a by omega, show m + (b - m) = b by omega] at r
    exact r
  case round =>
    obtain ⟨x, y, rfl, rfl, hx, hy, hxm, hyb, hS⟩ := hrel
    obtain ⟨d', S, hR⟩ := hS.out
    have HS := Lib.hid S
    have HR := Lib.hid hR
    clear S hR hS
    have f1 : (m : Int) - (x : Int) = ((m - x : Nat) : Int) := by omega
    rcases Nat.lt_trichotomy x y with hc | hc | hc
    · have q1 : ((x : Int) != (y : Int)) = true := by rw [bne_iff_ne]; omega
      have q2 : decide ((y : Int) < (x : Int)) = false := decide_eq_false (by omega)
      have f2 : (m : Int) + (y : Int) - (x : Int) = ((m + y - x : Nat) : Int) := by omega
      have f3 : (y : Int) - (x : Int) = ((y - x : Nat) : Int) := by omega
      have HC := Lib.hid (swapr_c w g n cap (m - x) (m + y - x) x fv d' wr HS.out (by omega) (by omega) hn)
      rw [← f1, ← f2] at HC
      have HF := Lib.hid f3
      clear f1 f2 f3
      go_wp2_with fail
      refine HC.out.mono ?_
      rintro e w1 ⟨rfl, hP⟩
      have HP := Lib.hid hP
      clear hP HC
      go_wp2_with fail
      go_roundw
      case rel =>
        obtain ⟨d1, S1, R1⟩ := HP.out
        exact ⟨x, y - x, rfl, by rw [HF.out], hx, by omega, hxm, by omega, ⟨d1, S1, fun d2 r => HR.out d2 (Rot.less (by omega) hc R1 r)⟩⟩
      case measure => simp [intOf]; omega
    · have q1 : ((x : Int) != (y : Int)) = false := by rw [bne_eq_false_iff_eq]; omega
      subst hc
      have HC := Lib.hid (swapr_c w g n cap (m - x) m x fv d' wr HS.out (by omega) (by omega) hn)
      rw [← f1] at HC
      clear f1
      go_wp2_with fail
      refine HC.out.mono ?_
      rintro e w1 ⟨rfl, hP⟩
      have HP := Lib.hid hP
      clear hP HC
      go_wp2_with fail
      go_end0
      obtain ⟨d1, S1, R1⟩ := HP.out
      exact ⟨rfl, d1, S1, HR.out d1 (Rot.same (by omega) R1)⟩
    · have q1 : ((x : Int) != (y : Int)) = true := by rw [bne_iff_ne]; omega
      have q2 : decide ((y : Int) < (x : Int)) = true := decide_eq_true (by omega)
      have f3 : (x : Int) - (y : Int) = ((x - y : Nat) : Int) := by omega
      have HC := Lib.hid (swapr_c w g n cap (m - x) m y fv d' wr HS.out (by omega) (by omega) hn)
      rw [← f1] at HC
      have HF := Lib.hid f3
      clear f1 f3
      go_wp2_with fail
      refine HC.out.mono ?_
      rintro e w1 ⟨rfl, hP⟩
      have HP := Lib.hid hP
      clear hP HC
      go_wp2_with fail
      go_roundw
      case rel =>
        obtain ⟨d1, S1, R1⟩ := HP.out
        exact ⟨x - y, y, by rw [HF.out], rfl, by omega, hy, by omega, hyb, ⟨d1, S1, fun d2 r => HR.out d2 (Rot.big (by omega) hc R1 r)⟩⟩
      case measure => simp [intOf]; omega
end Go.Proofs.Ytifdpcjfjoekmaa
