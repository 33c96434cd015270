/-
  General words on rows; package shape: sound, One, broken; eval.Final's function: their contracts. Condition: the values may be, their ints fit 64 bits.
  package shape: One, broken: their contracts. Condition: the value may be, its ints fit 64 bits.
  shape.Each's function over Final's: its contract. Condition: the array can be read, its values may be, their ints fit 64 bits; the place is one of the array's.
-/
import Derived.Test.YtccnkkffeokgcaaGreatDoorQ10
namespace Go.Proofs.YtccnkkffeokgcaaGreatDoor
open Go.RowKit

theorem add_at (g o j : Nat) : (⟨g, o, none⟩ : Addr).add j = ⟨g, o + j, none⟩ := by unfold Addr.add; split <;> simp_all
theorem flat_get {α : Type} {f : α → List Value} {k : Nat} (hf : ∀ z, (f z).length = k) : ∀ (l : List α) (i : Nat) (h : i < l.length) (j : Nat) (v : Value), (f l[i])[j]? = some v → (l.flatMap f)[i * k + j]? = some v
  | [], i, h, _, _, _ => by simp at h
  | z :: l, 0, _, j, v, hv => by
    have hj : j < (f z).length := (List.getElem?_eq_some_iff.1 hv).1
    rw [List.flatMap_cons, Nat.zero_mul, Nat.zero_add, List.getElem?_append_left hj]
    exact hv
  | z :: l, i + 1, h, j, v, hv => by
    have ih := flat_get hf l i (by simpa using h) j v hv
    rw [List.flatMap_cons, List.getElem?_append_right (by rw [hf, Nat.succ_mul]; omega), hf, show (i + 1) * k + j - k = i * k + j by rw [Nat.succ_mul]; omega]
    exact ih
theorem flat_len {α : Type} {f : α → List Value} {k : Nat} (hf : ∀ z, (f z).length = k) : ∀ (l : List α), (l.flatMap f).length = l.length * k
  | [] => by simp
  | z :: l => by rw [List.flatMap_cons, List.length_append, hf, flat_len hf l, List.length_cons, Nat.succ_mul]; omega
theorem manyR_of_row {α : Type} {f : α → List Value} {k : Nat} (hf : ∀ z, (f z).length = k) (hk : 0 < k) {w : World} {base : Nat} {e : TypeId} {A : Option Addr} {n c : Nat} {l : List α} (h : w.ownsRow base e k (.slice A n c) n (l.flatMap f)) :
    l.length = n ∧ ManyR f k w A l := by
  have hn : l.length = n := by
    have := h.1
    rw [flat_len hf] at this
    exact Nat.eq_of_mul_eq_mul_right hk this
  refine ⟨hn, fun hl => ?_⟩
  rcases h.2 with ⟨hv, h0⟩ | ⟨g, cap, cur, hv, _, hg, _⟩
  · exact absurd (List.length_eq_zero_iff.1 (hn.trans h0)) hl
  · cases hv
    refine ⟨g, 0, rfl, (Array.getElem?_eq_some_iff.1 hg).1, fun i hi j v hv => ?_⟩
    have c1 := h.cells (g := g) rfl _ _ (flat_get hf l i hi j v hv)
    rw [add_at] at c1
    rw [Nat.add_assoc]
    exact c1
theorem val_one (l : List Val) : ∀ u ∈ l.flatMap Val.cs, u.oneCell' = true := by
  intro u hu
  obtain ⟨z, _, hz⟩ := List.mem_flatMap.1 hu
  simp only [Val.cs, List.mem_cons, List.not_mem_nil, or_false] at hz
  rcases hz with rfl | rfl | rfl | rfl | rfl | rfl <;> rfl
def RetV (w : World) (x : Val) (e : Ending) (w' : World) : Prop := e = .returned (.agg x.cs.toArray) ∧ Below w.heap.size w w'
set_option maxRecDepth 100000 in
set_option maxHeartbeats 4000000 in
theorem sound_c (x : Val) (hr : RightV x) (hf : FitsV x) (w : World) : Calls Tryz.prog 38 #[.agg x.cs.toArray] w (RetV w x) := by
  have HR := Lib.hid hr
  obtain ⟨k, m, e, t, b, f⟩ := x
  have HV := Lib.hid (fun W => show Calls Tryz.prog 74 #[.agg #[.int .i64 k, .int .i64 m, .int .i64 e, .string t, .bool b, .int .i64 f]] W (RgV W ⟨k, m, e, t, b, f⟩) from vright_c ⟨k, m, e, t, b, f⟩ hf.1 hf.2.1 hf.2.2.1 hf.2.2.2 W)
  clear hr hf
  show Calls Tryz.prog 38 #[.agg #[.int .i64 k, .int .i64 m, .int .i64 e, .string t, .bool b, .int .i64 f]] w _
  have HB := Lib.hid (((Below.refl _ w).alloc (Nat.le_refl _) (.cells #[.int .i64 k, .int .i64 m, .int .i64 e, .string t, .bool b, .int .i64 f] 41)).alloc (by simp) (.cells #[.int .i64 0, .int .i64 0, .int .i64 0, .string ⟨#[]⟩, .bool false, .int .i64 0] 41))
  have BX := Lib.hid ((Blk.new w 41 #[.int .i64 k, .int .i64 m, .int .i64 e, .string t, .bool b, .int .i64 f]).alloc (.cells #[.int .i64 0, .int .i64 0, .int .i64 0, .string ⟨#[]⟩, .bool false, .int .i64 0] 41))
  have BY := Lib.hid (show Blk ((w.alloc (.cells #[.int .i64 k, .int .i64 m, .int .i64 e, .string t, .bool b, .int .i64 f] 41)).alloc (.cells #[.int .i64 0, .int .i64 0, .int .i64 0, .string ⟨#[]⟩, .bool false, .int .i64 0] 41)) (w.heap.size + 1) 41 #[.int .i64 0, .int .i64 0, .int .i64 0, .string ⟨#[]⟩, .bool false, .int .i64 0] by
    have := Blk.new (w.alloc (.cells #[.int .i64 k, .int .i64 m, .int .i64 e, .string t, .bool b, .int .i64 f] 41)) 41 #[.int .i64 0, .int .i64 0, .int .i64 0, .string ⟨#[]⟩, .bool false, .int .i64 0]
    rwa [show (w.alloc (.cells #[.int .i64 k, .int .i64 m, .int .i64 e, .string t, .bool b, .int .i64 f] 41)).heap.size = w.heap.size + 1 by simp] at this)
  go_enter Tryz.func38, Tryz.ntmps38
  go_wp2_with fail
  generalize ((w.alloc (.cells #[.int .i64 k, .int .i64 m, .int .i64 e, .string t, .bool b, .int .i64 f] 41)).alloc (.cells #[.int .i64 0, .int .i64 0, .int .i64 0, .string ⟨#[]⟩, .bool false, .int .i64 0] 41)) = V at *
  refine (HV.out _).mono ?_
  rintro y w1 ⟨b1, rfl, r1, B1⟩
  have BX1 := Lib.hid (BX.out.kept (B1.block _ BX.out.lt))
  have BY1 := Lib.hid (BY.out.kept (B1.block _ BY.out.lt))
  have HB1 := Lib.hid (HB.out.trans (B1.mono HB.out.size))
  obtain rfl : b1 = true := r1.2 HR.out
  clear B1 r1 HB BX BY
  have c0 := BX1.out.cell 0
  have c1 := BX1.out.cell 1
  have c2 := BX1.out.cell 2
  have c3 := BX1.out.cell 3
  have c4 := BX1.out.cell 4
  have c5 := BX1.out.cell 5
  simp only [List.getElem?_toArray, List.getElem?_cons_zero, List.getElem?_cons_succ] at c0 c1 c2 c3 c4 c5
  have e0 := BY1.out.cell 0
  have e1 := BY1.out.cell 1
  have e2 := BY1.out.cell 2
  have e3 := BY1.out.cell 3
  have e4 := BY1.out.cell 4
  have e5 := BY1.out.cell 5
  simp only [List.getElem?_toArray, List.getElem?_cons_zero, List.getElem?_cons_succ] at e0 e1 e2 e3 e4 e5
  have f0 := BY1.out.frozen 0
  have f1 := BY1.out.frozen 1
  have f2 := BY1.out.frozen 2
  have f3 := BY1.out.frozen 3
  have f4 := BY1.out.frozen 4
  have f5 := BY1.out.frozen 5
  have lX := BY1.out.lt
  go_wp2_with fail
  change bodyPost _ _ _ _ _ (put6 w1 (w.heap.size + 1) (.int .i64 k) (.int .i64 m) (.int .i64 e) (.string t) (.bool b) (.int .i64 f))
  have bX2 := Lib.hid (blk_put6 BY1.out (.int .i64 k) (.int .i64 m) (.int .i64 e) (.string t) (.bool b) (.int .i64 f))
  have HB2 := below_put6 HB1.out (Nat.le_succ _) (.int .i64 k) (.int .i64 m) (.int .i64 e) (.string t) (.bool b) (.int .i64 f)
  generalize put6 w1 (w.heap.size + 1) (.int .i64 k) (.int .i64 m) (.int .i64 e) (.string t) (.bool b) (.int .i64 f) = W2 at *
  have d0 := bX2.out.cell 0
  have d1 := bX2.out.cell 1
  have d2 := bX2.out.cell 2
  have d3 := bX2.out.cell 3
  have d4 := bX2.out.cell 4
  have d5 := bX2.out.cell 5
  simp only [List.getElem?_toArray, List.getElem?_cons_zero, List.getElem?_cons_succ] at d0 d1 d2 d3 d4 d5
  exact bodyPost_ret (v := .agg #[.int .i64 k, .int .i64 m, .int .i64 e, .string t, .bool b, .int .i64 f]) (by simp [results, Tryz.f38, go_sem, d0, d1, d2, d3, d4, d5]) rfl ⟨rfl, HB2⟩
def fin (x : Val) : Val := if x.kind = 0 then ⟨1, 0, 0, ⟨#[]⟩, false, 0⟩ else x
set_option maxRecDepth 100000 in
set_option maxHeartbeats 4000000 in
theorem fin1_c (x : Val) (w : World) : Calls Tryz.prog 17 #[.agg x.cs.toArray] w (RetV w (fin x)) := by
  obtain ⟨k, m, e, t, b, f⟩ := x
  show Calls Tryz.prog 17 #[.agg #[.int .i64 k, .int .i64 m, .int .i64 e, .string t, .bool b, .int .i64 f]] w _
  by_cases hk : k = 0
  · rw [show fin ⟨k, m, e, t, b, f⟩ = ⟨1, 0, 0, ⟨#[]⟩, false, 0⟩ from if_pos hk]
    have hkb : (k == 0) = true := by simp [hk]
    clear hk
    go_enter Tryz.func17, Tryz.ntmps17
    go_wp2_with fail
    exact bodyPost_ret (v := .agg #[.int .i64 1, .int .i64 0, .int .i64 0, .string ⟨#[]⟩, .bool false, .int .i64 0]) (by simp [results, Tryz.f17, go_sem]) rfl ⟨rfl, ((Below.refl _ w).alloc (Nat.le_refl _) _).alloc (by simp) _⟩
  · rw [show fin ⟨k, m, e, t, b, f⟩ = ⟨k, m, e, t, b, f⟩ from if_neg hk]
    have hkb : (k == 0) = false := by simp [hk]
    clear hk
    go_enter Tryz.func17, Tryz.ntmps17
    go_wp2_with fail
    exact bodyPost_ret (v := .agg #[.int .i64 k, .int .i64 m, .int .i64 e, .string t, .bool b, .int .i64 f]) (by simp [results, Tryz.f17, go_sem]) rfl ⟨rfl, ((Below.refl _ w).alloc (Nat.le_refl _) _).alloc (by simp) _⟩

def RetA (w : World) (r c : Int) (l : List Val) (e : Ending) (w' : World) : Prop := ∃ A n ca, e = .returned (.agg #[.int .i64 r, .int .i64 c, .slice A n ca]) ∧ l.length = n ∧ ManyR Val.cs 6 w' A l ∧ (∀ a, A = some a → w.heap.size ≤ a.block) ∧ Below w.heap.size w w'
theorem manyR_put3 {W : World} {A : Option Addr} {l : List Val} {X : Nat} (h : ManyR Val.cs 6 W A l) (hx : ∀ a, A = some a → a.block ≠ X) (a b c : Value) : ManyR Val.cs 6 (put3 W X a b c) A l := fun hl => by
  obtain ⟨g, off, rfl, hlt, hc⟩ := h hl
  have hne := hx _ rfl
  refine ⟨g, off, rfl, by unfold put3; simpa using hlt, fun i hi j v hv => ?_⟩
  have ne : ∀ o, (⟨X, o, none⟩ : Addr) ≠ ⟨g, off + i * 6 + j, none⟩ := fun o e => hne (by cases e; rfl)
  unfold put3
  rw [World.cell?_setCell_other _ _ _ _ (ne 2), World.cell?_setCell_other _ _ _ _ (ne 1), World.cell?_setCell_other _ _ _ _ (ne 0)]
  exact hc i hi j v hv
theorem manyR_one {W : World} {g : Nat} {ty : TypeId} {k m e f : Int} {t : ByteArray} {b : Bool} (h : Blk W g ty #[.int .i64 k, .int .i64 m, .int .i64 e, .string t, .bool b, .int .i64 f]) : ManyR Val.cs 6 W (some ⟨g, 0, none⟩) [⟨k, m, e, t, b, f⟩] := fun _ => by
  refine ⟨g, 0, rfl, h.lt, fun i hi j v hv => ?_⟩
  obtain rfl : i = 0 := by simp at hi; exact hi
  rw [show 0 + 0 * 6 + j = j by omega, h.cell j]
  simpa [Val.cs] using hv
set_option maxRecDepth 100000 in
set_option maxHeartbeats 4000000 in
theorem one_c (x : Val) (hr : RightV x) (hf : FitsV x) (w : World) : Calls Tryz.prog 61 #[.agg x.cs.toArray] w (RetA w 1 1 [x]) := by
  have HR := Lib.hid hr
  obtain ⟨k, m, e, t, b, f⟩ := x
  have HV := Lib.hid (fun W => show Calls Tryz.prog 74 #[.agg #[.int .i64 k, .int .i64 m, .int .i64 e, .string t, .bool b, .int .i64 f]] W (RgV W ⟨k, m, e, t, b, f⟩) from vright_c ⟨k, m, e, t, b, f⟩ hf.1 hf.2.1 hf.2.2.1 hf.2.2.2 W)
  clear hr hf
  show Calls Tryz.prog 61 #[.agg #[.int .i64 k, .int .i64 m, .int .i64 e, .string t, .bool b, .int .i64 f]] w _
  have HB := Lib.hid (((Below.refl _ w).alloc (Nat.le_refl _) (.cells #[.int .i64 k, .int .i64 m, .int .i64 e, .string t, .bool b, .int .i64 f] 41)).alloc (by simp) (.cells #[.int .i64 0, .int .i64 0, .slice none 0 0] 24))
  have BX := Lib.hid ((Blk.new w 41 #[.int .i64 k, .int .i64 m, .int .i64 e, .string t, .bool b, .int .i64 f]).alloc (.cells #[.int .i64 0, .int .i64 0, .slice none 0 0] 24))
  have BY := Lib.hid (show Blk ((w.alloc (.cells #[.int .i64 k, .int .i64 m, .int .i64 e, .string t, .bool b, .int .i64 f] 41)).alloc (.cells #[.int .i64 0, .int .i64 0, .slice none 0 0] 24)) (w.heap.size + 1) 24 #[.int .i64 0, .int .i64 0, .slice none 0 0] by
    have := Blk.new (w.alloc (.cells #[.int .i64 k, .int .i64 m, .int .i64 e, .string t, .bool b, .int .i64 f] 41)) 24 #[.int .i64 0, .int .i64 0, .slice none 0 0]
    rwa [show (w.alloc (.cells #[.int .i64 k, .int .i64 m, .int .i64 e, .string t, .bool b, .int .i64 f] 41)).heap.size = w.heap.size + 1 by simp] at this)
  go_enter Tryz.func61, Tryz.ntmps61
  go_wp2_with fail
  generalize ((w.alloc (.cells #[.int .i64 k, .int .i64 m, .int .i64 e, .string t, .bool b, .int .i64 f] 41)).alloc (.cells #[.int .i64 0, .int .i64 0, .slice none 0 0] 24)) = V at *
  refine (HV.out _).mono ?_
  rintro y w1 ⟨b1, rfl, r1, B1⟩
  have BX1 := Lib.hid (BX.out.kept (B1.block _ BX.out.lt))
  have BY1 := Lib.hid ((BY.out.kept (B1.block _ BY.out.lt)).alloc (.cells #[.int .i64 k, .int .i64 m, .int .i64 e, .string t, .bool b, .int .i64 f] 41))
  have HY1 := Lib.hid (show w.heap.size + 1 < w1.heap.size from Nat.lt_of_lt_of_le BY.out.lt B1.size)
  have HB1 := Lib.hid ((HB.out.trans (B1.mono HB.out.size)).alloc (Nat.le_trans HB.out.size B1.size) (.cells #[.int .i64 k, .int .i64 m, .int .i64 e, .string t, .bool b, .int .i64 f] 41))
  obtain rfl : b1 = true := r1.2 HR.out
  clear B1 r1 HB BX BY
  have c0 := BX1.out.cell 0
  have c1 := BX1.out.cell 1
  have c2 := BX1.out.cell 2
  have c3 := BX1.out.cell 3
  have c4 := BX1.out.cell 4
  have c5 := BX1.out.cell 5
  simp only [List.getElem?_toArray, List.getElem?_cons_zero, List.getElem?_cons_succ] at c0 c1 c2 c3 c4 c5
  have e0 := BY1.out.cell 0
  have e1 := BY1.out.cell 1
  have e2 := BY1.out.cell 2
  simp only [List.getElem?_toArray, List.getElem?_cons_zero, List.getElem?_cons_succ] at e0 e1 e2
  have f0 := BY1.out.frozen 0
  have f1 := BY1.out.frozen 1
  have f2 := BY1.out.frozen 2
  have lX := BY1.out.lt
  go_wp2_with fail
  change bodyPost _ _ _ _ _ (put3 (w1.alloc (.cells #[.int .i64 k, .int .i64 m, .int .i64 e, .string t, .bool b, .int .i64 f] 41)) (w.heap.size + 1) (.int .i64 1) (.int .i64 1) (.slice (some ⟨w1.heap.size, 0, none⟩) 1 1))
  have BZ := blk_put3far (Blk.new w1 41 #[.int .i64 k, .int .i64 m, .int .i64 e, .string t, .bool b, .int .i64 f]) (show w1.heap.size ≠ w.heap.size + 1 from fun h => by have := HY1.out; omega) (.int .i64 1) (.int .i64 1) (.slice (some ⟨w1.heap.size, 0, none⟩) 1 1)
  have bX2 := Lib.hid (blk_put3 BY1.out (.int .i64 1) (.int .i64 1) (.slice (some ⟨w1.heap.size, 0, none⟩) 1 1))
  have HB2 := below_put3 HB1.out (Nat.le_succ _) (.int .i64 1) (.int .i64 1) (.slice (some ⟨w1.heap.size, 0, none⟩) 1 1)
  generalize put3 (w1.alloc (.cells #[.int .i64 k, .int .i64 m, .int .i64 e, .string t, .bool b, .int .i64 f] 41)) (w.heap.size + 1) (.int .i64 1) (.int .i64 1) (.slice (some ⟨w1.heap.size, 0, none⟩) 1 1) = W2 at *
  have d0 := bX2.out.cell 0
  have d1 := bX2.out.cell 1
  have d2 := bX2.out.cell 2
  simp only [List.getElem?_toArray, List.getElem?_cons_zero, List.getElem?_cons_succ] at d0 d1 d2
  exact bodyPost_ret (v := .agg #[.int .i64 1, .int .i64 1, .slice (some ⟨w1.heap.size, 0, none⟩) 1 1]) (by simp [results, Tryz.f61, go_sem, d0, d1, d2]) rfl ⟨_, _, _, rfl, rfl, manyR_one BZ, fun a h => by cases h; have := HY1.out; show w.heap.size ≤ w1.heap.size; omega, HB2⟩
theorem fits_bad9 : FitsV (badV 9) := by unfold FitsV; rw [badV_in (by omega)]; simp
set_option maxRecDepth 100000 in
set_option maxHeartbeats 4000000 in
theorem broken_c (w : World) : Calls Tryz.prog 34 #[] w (RetA w 1 1 [badV 9]) := by
  have HB := Lib.hid ((Below.refl _ w).alloc (Nat.le_refl _) (.cells #[.int .i64 0, .int .i64 0, .slice none 0 0] 24))
  have BY := Lib.hid (Blk.new w 24 #[.int .i64 0, .int .i64 0, .slice none 0 0])
  have HO := Lib.hid (fun W => show Calls Tryz.prog 61 #[.agg #[.int .i64 4, .int .i64 0, .int .i64 0, .string ⟨#[]⟩, .bool false, .int .i64 9]] W (RetA W 1 1 [badV 9]) from one_c (badV 9) (rightV_bad 9) fits_bad9 W)
  go_enter Tryz.func34, Tryz.ntmps34
  go_wp2_with fail
  generalize w.alloc (.cells #[.int .i64 0, .int .i64 0, .slice none 0 0] 24) = V at *
  refine (vbadn_c 9 (by omega) _).mono ?_
  rintro y w1 ⟨rfl, B1⟩
  have BY1 := Lib.hid (BY.out.kept (B1.block _ BY.out.lt))
  have HB1 := Lib.hid (HB.out.trans (B1.mono HB.out.size))
  clear B1 HB BY
  go_wp2_with fail
  refine (HO.out _).mono ?_
  rintro y w2 ⟨A, n, ca, rfl, hn, hA, hF, B1⟩
  have BY2 := Lib.hid (BY1.out.kept (B1.block _ BY1.out.lt))
  have HB2 := Lib.hid (HB1.out.trans (B1.mono HB1.out.size))
  have HN := Lib.hid hn
  have HF := Lib.hid (show ∀ a, A = some a → w.heap.size < a.block from fun a e => Nat.lt_of_lt_of_le BY1.out.lt (hF a e))
  have HA := Lib.hid (manyR_put3 hA (X := w.heap.size) (fun a e => by have := HF.out a e; omega) (.int .i64 1) (.int .i64 1) (.slice A n ca))
  clear B1 HB1 BY1 hn hA hF
  have e0 := BY2.out.cell 0
  have e1 := BY2.out.cell 1
  have e2 := BY2.out.cell 2
  simp only [List.getElem?_toArray, List.getElem?_cons_zero, List.getElem?_cons_succ] at e0 e1 e2
  have f0 := BY2.out.frozen 0
  have f1 := BY2.out.frozen 1
  have f2 := BY2.out.frozen 2
  have lX := BY2.out.lt
  go_wp2_with fail
  change bodyPost _ _ _ _ _ (put3 w2 w.heap.size (.int .i64 1) (.int .i64 1) (.slice A n ca))
  have bX2 := Lib.hid (blk_put3 BY2.out (.int .i64 1) (.int .i64 1) (.slice A n ca))
  have HB3 := below_put3 HB2.out (Nat.le_refl _) (.int .i64 1) (.int .i64 1) (.slice A n ca)
  generalize put3 w2 w.heap.size (.int .i64 1) (.int .i64 1) (.slice A n ca) = W2 at *
  have d0 := bX2.out.cell 0
  have d1 := bX2.out.cell 1
  have d2 := bX2.out.cell 2
  simp only [List.getElem?_toArray, List.getElem?_cons_zero, List.getElem?_cons_succ] at d0 d1 d2
  exact bodyPost_ret (v := .agg #[.int .i64 1, .int .i64 1, .slice A n ca]) (by simp [results, Tryz.f34, go_sem, d0, d1, d2]) rfl ⟨_, _, _, rfl, HN.out, HA.out, fun a e => Nat.le_of_lt (HF.out a e), HB3⟩

theorem fits_fin {x : Val} (h : FitsV x) : FitsV (fin x) := by
  unfold fin
  split
  · unfold FitsV; simp
  · exact h
theorem right_fin {x : Val} (h : RightV x) : RightV (fin x) := by
  unfold fin
  split
  · exact rightV1.2 ⟨⟨fun _ => rfl, by decide, by decide, fun h => absurd rfl h, by decide, fun h => absurd rfl h⟩, by simp, rfl, rfl⟩
  · exact h
@[go_sem ↓] theorem eqlFun (w : World) : (binOp .eql 65 (.func (.func 17) #[] #[]) .nilFunc).run Tryz.prog w = .ok (.bool false) w := by kernel_rfl
set_option maxRecDepth 100000 in
set_option maxHeartbeats 4000000 in
theorem each1_c (bf ba : Nat) (r c : Int) (A : Option Addr) (n ca : Nat) (l : List Val) (w : World) (row col : Int) (p : Nat) (hp : row * c + col = p) (hpl : p < l.length) (hn : l.length = n) (hm : n ≤ 4096)
    (hbf : w.cell? ⟨bf, 0, none⟩ = some (.func (.func 17) #[] #[])) (lbf : bf < w.heap.size) (hba : Blk w ba 24 #[.int .i64 r, .int .i64 c, .slice A n ca]) (hA : ManyR Val.cs 6 w A l) (hr : ∀ v ∈ l, RightV v) (hf : ∀ v ∈ l, FitsV v)
    (hrow : 0 ≤ row) (hcol : 0 ≤ col) (hc : 1 ≤ c) :
    Calls Tryz.prog 36 (#[.int .i64 row, .int .i64 col] ++ #[.pointer (some ⟨bf, 0, none⟩), .pointer (some ⟨ba, 0, none⟩)]) w (RetV w (fin l[p])) := by
  have H0 : 0 ≤ row * c := Int.mul_nonneg hrow (by omega)
  obtain ⟨q, hq⟩ : ∃ q, row * c = q := ⟨_, rfl⟩
  have wq : IntKind.i64.wrap (row * c) = q := by rw [hq]; exact IntWalk.i64_in _ (by omega)
  have wp : IntKind.i64.wrap (q + col) = (p : Int) := by rw [← hq, hp]; exact IntWalk.i64_in _ (by omega)
  obtain ⟨bA, oA, rfl, lA, hcA⟩ := hA (fun e => by rw [e] at hpl; simp at hpl)
  have gv := hcA p hpl
  have hmem := List.getElem_mem hpl
  have HR := Lib.hid (hr _ hmem)
  have HF := Lib.hid (hf _ hmem)
  have hpn : (p : Int) < (n : Int) := by omega
  have hp0 : (0 : Int) ≤ (p : Int) := by omega
  clear hcA hmem hr hf hA hq hp H0
  generalize l[p] = z at *
  clear hpl
  have HFin := Lib.hid (fun W => fin1_c z W)
  have HSo := Lib.hid (fun W => sound_c (fin z) (right_fin HR.out) (fits_fin HF.out) W)
  have hzc : z.cs = [.int .i64 z.kind, .int .i64 z.mant, .int .i64 z.exp, .string z.text, .bool z.truth, .int .i64 z.fault] := rfl
  generalize fin z = y at *
  obtain ⟨k', m', e', t', b', f'⟩ := y
  obtain ⟨k, m, e, t, b, f⟩ := z
  have HFin := Lib.hid (fun W => show Calls Tryz.prog 17 #[.agg #[.int .i64 k, .int .i64 m, .int .i64 e, .string t, .bool b, .int .i64 f]] W (fun x w' => x = .returned (.agg #[.int .i64 k', .int .i64 m', .int .i64 e', .string t', .bool b', .int .i64 f']) ∧ Below W.heap.size W w') from HFin.out W)
  have HSo := Lib.hid (fun W => show Calls Tryz.prog 38 #[.agg #[.int .i64 k', .int .i64 m', .int .i64 e', .string t', .bool b', .int .i64 f']] W (fun x w' => x = .returned (.agg #[.int .i64 k', .int .i64 m', .int .i64 e', .string t', .bool b', .int .i64 f']) ∧ Below W.heap.size W w') from HSo.out W)
  have c0 := gv 0 _ rfl
  have c1 := gv 1 _ rfl
  have c2 := gv 2 _ rfl
  have c3 := gv 3 _ rfl
  have c4 := gv 4 _ rfl
  have c5 := gv 5 _ rfl
  rw [Nat.add_zero] at c0
  have a1 := hba.cell 1
  have a2 := hba.cell 2
  simp only [List.getElem?_toArray, List.getElem?_cons_zero, List.getElem?_cons_succ] at a1 a2
  have lba := hba.lt
  have HCC : Hid (∀ W, Below w.heap.size w W → AllCells W [(⟨bf, 0, none⟩, .func (.func 17) #[] #[]), (⟨ba, 1, none⟩, .int .i64 c), (⟨ba, 2, none⟩, .slice (some ⟨bA, oA, none⟩) n ca), (⟨bA, oA + p * 6, none⟩, .int .i64 k), (⟨bA, oA + p * 6 + 1, none⟩, .int .i64 m), (⟨bA, oA + p * 6 + 2, none⟩, .int .i64 e), (⟨bA, oA + p * 6 + 3, none⟩, .string t), (⟨bA, oA + p * 6 + 4, none⟩, .bool b), (⟨bA, oA + p * 6 + 5, none⟩, .int .i64 f)]) := Lib.hid (fun W hW => ⟨(hW.cell (p := ⟨bf, 0, none⟩) lbf).trans hbf, (hW.cell (p := ⟨ba, 1, none⟩) lba).trans a1, (hW.cell (p := ⟨ba, 2, none⟩) lba).trans a2, (hW.cell (p := ⟨bA, oA + p * 6, none⟩) lA).trans c0, (hW.cell (p := ⟨bA, oA + p * 6 + 1, none⟩) lA).trans c1, (hW.cell (p := ⟨bA, oA + p * 6 + 2, none⟩) lA).trans c2, (hW.cell (p := ⟨bA, oA + p * 6 + 3, none⟩) lA).trans c3, (hW.cell (p := ⟨bA, oA + p * 6 + 4, none⟩) lA).trans c4, (hW.cell (p := ⟨bA, oA + p * 6 + 5, none⟩) lA).trans c5, trivial⟩)
  clear gv hzc c0 c1 c2 c3 c4 c5 a1 a2 lba lA hba
  have HB := Lib.hid ((Below.refl _ w).alloc (Nat.le_refl _) (.cells #[.int .i64 0, .int .i64 0, .int .i64 0, .string ⟨#[]⟩, .bool false, .int .i64 0] 41))
  have BY := Lib.hid (Blk.new w 41 #[.int .i64 0, .int .i64 0, .int .i64 0, .string ⟨#[]⟩, .bool false, .int .i64 0])
  go_enter Tryz.func36, Tryz.ntmps36
  go_wp2_with fail
  generalize w.alloc (.cells #[.int .i64 0, .int .i64 0, .int .i64 0, .string ⟨#[]⟩, .bool false, .int .i64 0] 41) = V at *
  have HC := HCC.out _ HB.out.drew
  refine region_free _ [0, 1, 2, 3, 4, 5, 6, 7, 8, 9, 10] 3 (by kernel_rfl) (by kernel_rfl) (by kernel_rfl) (by kernel_rfl) (by kernel_rfl) (fun _ _ _ _ _ h => h) HC ?_
  intro hne hu
  simp only [AllCells] at hu
  simp only [pick, List.take_succ_cons, List.take_zero, List.drop_succ_cons, List.drop_zero, List.cons_append, List.nil_append]
  repeat (go_big_quiet_step (fail))
  refine wpQuiet_nil ?_
  clear hne hu
  refine anyN_oneL 11 (by kernel_rfl) ?_
  simp only [List.take_succ_cons, List.take_zero, List.drop_succ_cons, List.drop_zero]
  go_wp2_with fail
  refine (HFin.out _).mono ?_
  rintro y w1 ⟨rfl, B1⟩
  have BY1 := Lib.hid (BY.out.kept (show w1.heap[w.heap.size]? = V.heap[w.heap.size]? from B1.block _ BY.out.lt))
  have HB1 := Lib.hid (HB.out.drew.trans (B1.mono HB.out.size))
  have HC1 := HCC.out _ HB1.out
  clear B1 HB BY HC
  go_wp2_with fail
  refine And.intro (fun _ => HC1) ?_
  refine anyN_oneL 12 (by kernel_rfl) ?_
  simp only [List.take_succ_cons, List.take_zero, List.drop_succ_cons, List.drop_zero]
  go_wp2_with fail
  refine (HSo.out _).mono ?_
  rintro y w2 ⟨rfl, B1⟩
  have BY2 := Lib.hid (BY1.out.kept (B1.block _ BY1.out.lt))
  have HB2 := Lib.hid (HB1.out.trans (B1.mono HB1.out.size))
  have HC2 := HCC.out _ HB2.out
  clear B1 HB1 BY1 HC1
  go_wp2_with fail
  refine And.intro (fun _ => HC2) ?_
  refine anyN_oneL 13 (by kernel_rfl) ?_
  simp only [List.take_succ_cons, List.take_zero, List.drop_succ_cons, List.drop_zero]
  have e0 := BY2.out.cell 0
  have e1 := BY2.out.cell 1
  have e2 := BY2.out.cell 2
  have e3 := BY2.out.cell 3
  have e4 := BY2.out.cell 4
  have e5 := BY2.out.cell 5
  simp only [List.getElem?_toArray, List.getElem?_cons_zero, List.getElem?_cons_succ] at e0 e1 e2 e3 e4 e5
  have f0 := BY2.out.frozen 0
  have f1 := BY2.out.frozen 1
  have f2 := BY2.out.frozen 2
  have f3 := BY2.out.frozen 3
  have f4 := BY2.out.frozen 4
  have f5 := BY2.out.frozen 5
  have lX := BY2.out.lt
  go_wp2_with fail
  have HC3 := HCC.out _ (below_put6 HB2.out (Nat.le_refl _) (.int .i64 k') (.int .i64 m') (.int .i64 e') (.string t') (.bool b') (.int .i64 f'))
  have bX2 := Lib.hid (blk_put6 BY2.out (.int .i64 k') (.int .i64 m') (.int .i64 e') (.string t') (.bool b') (.int .i64 f'))
  have HB3 := below_put6 HB2.out (Nat.le_refl _) (.int .i64 k') (.int .i64 m') (.int .i64 e') (.string t') (.bool b') (.int .i64 f')
  change (_ → AllCells (put6 w2 w.heap.size (.int .i64 k') (.int .i64 m') (.int .i64 e') (.string t') (.bool b') (.int .i64 f')) _) ∧ wpAnyN _ _ _ _ _ _ _ _ _ (put6 w2 w.heap.size (.int .i64 k') (.int .i64 m') (.int .i64 e') (.string t') (.bool b') (.int .i64 f'))
  generalize put6 w2 w.heap.size (.int .i64 k') (.int .i64 m') (.int .i64 e') (.string t') (.bool b') (.int .i64 f') = W2 at *
  refine And.intro (fun _ => HC3) ?_
  refine ⟨by kernel_rfl, ?_⟩
  go_wp2_with fail
  have d0 := bX2.out.cell 0
  have d1 := bX2.out.cell 1
  have d2 := bX2.out.cell 2
  have d3 := bX2.out.cell 3
  have d4 := bX2.out.cell 4
  have d5 := bX2.out.cell 5
  simp only [List.getElem?_toArray, List.getElem?_cons_zero, List.getElem?_cons_succ] at d0 d1 d2 d3 d4 d5
  exact bodyPost_ret (v := .agg #[.int .i64 k', .int .i64 m', .int .i64 e', .string t', .bool b', .int .i64 f']) (by simp [results, Tryz.f36, go_sem, d0, d1, d2, d3, d4, d5]) rfl ⟨rfl, HB3⟩
end Go.Proofs.YtccnkkffeokgcaaGreatDoor
