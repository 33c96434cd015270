/-
  package shape: fits, Right: their contracts. Condition: the values can be read, their ints fit 64 bits; at most 4096 of them.
  counterpaneref09.Right: its contract. Condition: the values can be read, their ints fit 64 bits; at most 4096 of them.
  package shape: One, broken: their contracts. Condition: the value may be, its ints fit 64 bits.
  counterpaneref09.Same: its contract. Condition: both arrays can be read; at most 4096 values.
-/
import Derived.Test.YtdmbppgogdkpdaaGreatDoorQ8
set_option linter.unusedSectionVars false
namespace Go.Proofs.YtdmbppgogdkpdaaGreatDoor
open Go.RowKit
def FitP (w : World) (r c : Int) (x : Ending) (w' : World) : Prop := (∃ b : Bool, x = .returned (.bool b) ∧ (b = true ↔ 1 ≤ r ∧ 1 ≤ c ∧ r ≤ 4096 ∧ r * c ≤ 4096)) ∧ w' = w
theorem fits_c (r c : Int) (w : World) : Calls Tryz.prog 125 #[.int .i64 r, .int .i64 c] w (FitP w r c) := by
  by_cases h1 : 1 ≤ r
  · by_cases h2 : 1 ≤ c
    · by_cases h3 : r ≤ 4096
      · have hr0 : ¬ r = 0 := by omega
        have HD := Lib.hid (show c ≤ 4096 / r ↔ 1 ≤ r ∧ 1 ≤ c ∧ r ≤ 4096 ∧ r * c ≤ 4096 by
          rw [Int.le_ediv_iff_mul_le (by omega), Int.mul_comm]
          exact ⟨fun h => ⟨h1, h2, h3, h⟩, fun h => h.2.2.2⟩)
        go_enter Tryz.func125, Tryz.ntmps125
        go_wp2_with fail
        go_ret
        exact ⟨⟨_, rfl, by rw [decide_eq_true_iff]; exact HD.out⟩, rfl⟩
      · have H3 := Lib.hid h3
        go_enter Tryz.func125, Tryz.ntmps125
        go_wp2_with fail
        go_ret
        exact ⟨⟨false, rfl, ⟨(fun h => by cases h), fun h => by have := H3.out; omega⟩⟩, rfl⟩
    · have H2 := Lib.hid h2
      go_enter Tryz.func125, Tryz.ntmps125
      go_wp2_with fail
      go_ret
      exact ⟨⟨false, rfl, ⟨(fun h => by cases h), fun h => by have := H2.out; omega⟩⟩, rfl⟩
  · have H1 := Lib.hid h1
    go_enter Tryz.func125, Tryz.ntmps125
    go_wp2_with fail
    go_ret
    exact ⟨⟨false, rfl, ⟨(fun h => by cases h), fun h => by have := H1.out; omega⟩⟩, rfl⟩
/-- An array that may be. -/
structure RightA (r c : Int) (l : List Val) : Prop where
  r1 : 1 ≤ r
  c1 : 1 ≤ c
  len : r * c = l.length
  all : ∀ v ∈ l, RightV v
def FitsV (v : Val) : Prop := -9223372036854775808 ≤ v.mant ∧ v.mant ≤ 9223372036854775807 ∧ -9223372036854775808 ≤ v.exp ∧ v.exp ≤ 9223372036854775807
def RgA (w : World) (r c : Int) (l : List Val) (e : Ending) (w' : World) : Prop := ∃ b : Bool, e = .returned (.bool b) ∧ (b = true ↔ RightA r c l) ∧ Below w.heap.size w w'
theorem RightA.le {r c : Int} {l : List Val} (h : RightA r c l) (hl : l.length ≤ 4096) : 1 ≤ r ∧ 1 ≤ c ∧ r ≤ 4096 ∧ r * c ≤ 4096 := by
  have h1 := h.r1
  have h2 := h.c1
  have h3 := h.len
  have h4 : r * 1 ≤ r * c := Int.mul_le_mul_of_nonneg_left h2 (by omega)
  refine ⟨h1, h2, by omega, by omega⟩
set_option maxRecDepth 100000 in
set_option maxHeartbeats 4000000 in
theorem shright_c (r c : Int) (A : Option Addr) (n ca : Nat) (l : List Val) (w : World) (hA : ManyR Val.cs 6 w A l) (hn : l.length = n) (hm : n ≤ 4096) (hf : ∀ v ∈ l, FitsV v) :
    Calls Tryz.prog 75 #[.agg #[.int .i64 r, .int .i64 c, .slice A n ca]] w (RgA w r c l) := by
  have HB := Lib.hid ((Below.refl _ w).alloc (Nat.le_refl _) (.cells #[.int .i64 r, .int .i64 c, .slice A n ca] 28))
  have bX := Lib.hid (Blk.new w 28 #[.int .i64 r, .int .i64 c, .slice A n ca])
  have HA := Lib.hid hA
  have HN := Lib.hid hn
  have HF := Lib.hid hf
  clear hA hn hf
  go_enter Tryz.func75, Tryz.ntmps75
  go_wp2_with fail
  generalize w.alloc (.cells #[.int .i64 r, .int .i64 c, .slice A n ca] 28) = V at *
  refine (fits_c r c V).mono ?_
  rintro e w1 ⟨⟨b1, rfl, r1⟩, rfl⟩
  have HR1 := Lib.hid r1
  clear r1
  have c0 := bX.out.cell 0
  have c1 := bX.out.cell 1
  have c2 := bX.out.cell 2
  simp only [List.getElem?_toArray, List.getElem?_cons_zero, List.getElem?_cons_succ] at c0 c1 c2
  cases b1
  · go_wp2_with fail
    go_ret
    exact ⟨false, rfl, ⟨(fun h => by cases h), fun h => absurd (HR1.out.2 (h.le (by rw [HN.out]; exact hm))) (by simp)⟩, HB.out⟩
  · have hh := HR1.out.1 rfl
    have hp : 0 < r * c := Int.mul_pos (by omega) (by omega)
    obtain ⟨q, hq⟩ : ∃ q, r * c = q := ⟨_, rfl⟩
    have s1 : IntKind.i64.wrap (r * c) = q := by rw [hq]; exact IntWalk.i64_in _ (by omega)
    have HQ := Lib.hid hq
    have HH := Lib.hid hh
    clear hq hp hh
    by_cases hlen : (n : Int) = q
    · have hb : ((n : Int) != q) = false := by simp [hlen]
      have HL := Lib.hid hlen
      clear hlen
      go_wp2_with fail
      clear c0 c1 c2
      go_loopw [24] (fun i wr => ∃ j : Nat, j ≤ n ∧ i = .int .i64 j ∧ Hid (∀ v ∈ l.take j, RightV v) ∧ Hid (Below w.heap.size w wr) ∧ Hid (Blk wr w.heap.size 28 #[.int .i64 r, .int .i64 c, .slice A n ca])) (fun i _ => n - (intOf i).toNat)
      case atStart => exact ⟨0, Nat.zero_le _, rfl, Lib.hid (fun r hr => by simp at hr), HB, bX⟩
      case round =>
        obtain ⟨j, hj, rfl, hc, hb2, hbx⟩ := hrel
        have g := hbx.out.cell 2
        simp only [List.getElem?_toArray, List.getElem?_cons_zero, List.getElem?_cons_succ] at g
        by_cases hlt : j < n
        · have hjl : j < l.length := by rw [HN.out]; exact hlt
          obtain ⟨bA, oA, rfl, lA, hcA⟩ := (HA.out.next hb2.out) (fun e => by rw [e] at hjl; simp at hjl)
          have gv := hcA j hjl
          have hmem := Lib.hid (List.getElem_mem hjl)
          have htk := Lib.hid (show l.take (j + 1) = l.take j ++ [l[j]] from by rw [List.take_succ_eq_append_getElem hjl])
          clear hcA
          generalize l[j] = z at *
          have HZ := Lib.hid (HF.out _ hmem.out)
          have HRt := Lib.hid (fun W => vright_c z HZ.out.1 HZ.out.2.1 HZ.out.2.2.1 HZ.out.2.2.2 W)
          have hzc : z.cs = [.int .i64 z.kind, .int .i64 z.mant, .int .i64 z.exp, .string z.text, .bool z.truth, .int .i64 z.fault] := rfl
          obtain ⟨vk, m, ex, t, b, f⟩ := z
          have c0 := gv 0 _ rfl
          have c1 := gv 1 _ rfl
          have c2 := gv 2 _ rfl
          have c3 := gv 3 _ rfl
          have c4 := gv 4 _ rfl
          have c5 := gv 5 _ rfl
          rw [Nat.add_zero] at c0
          clear gv hzc
          have hj0 : (0 : Int) ≤ (j : Int) := by omega
          have hjn : (j : Int) < (n : Int) := by omega
          have wj : IntKind.i64.wrap ((j : Int) + 1) = (j : Int) + 1 := IntWalk.i64_in _ (by omega)
          go_wp2_with fail
          refine (HRt.out wr).mono ?_
          rintro e w1 ⟨b1, rfl, r1, B1⟩
          have HB1 := Lib.hid (hb2.out.trans (B1.mono hb2.out.size))
          have HX1 := Lib.hid (hbx.out.kept (B1.block _ hbx.out.lt))
          have HR1 := Lib.hid r1
          clear B1 r1 g c0 c1 c2 c3 c4 c5
          cases b1
          · go_wp2_with fail
            go_ret
            exact ⟨false, rfl, ⟨(fun h => by cases h), fun h => absurd (HR1.out.2 (h.all _ hmem.out)) (by simp)⟩, HB1.out⟩
          · go_wp2_with fail
            go_roundw
            case rel =>
              refine ⟨j + 1, by omega, by go_num, Lib.hid (fun v hv => ?_), HB1, HX1⟩
              rw [htk.out, List.mem_append] at hv
              rcases hv with hv | hv
              · exact hc.out v hv
              · rw [List.mem_singleton.1 hv]
                exact HR1.out.1 (by first | trivial | rfl)
            case measure => simp [intOf]; omega
        · obtain rfl : j = n := by omega
          have hjj : decide ((j : Int) < (j : Int)) = false := decide_eq_false (by omega)
          clear g
          go_wp2_with fail
          go_ret
          refine ⟨true, rfl, ⟨fun _ => ⟨HH.out.1, HH.out.2.1, by rw [HQ.out, HN.out]; exact HL.out.symm, fun v hv => hc.out v (by rw [List.take_of_length_le (by rw [HN.out]; exact Nat.le_refl _)]; exact hv)⟩, fun _ => rfl⟩, hb2.out⟩
    · have hb : ((n : Int) != q) = true := by simp [hlen]
      have HL := Lib.hid hlen
      clear hlen
      go_wp2_with fail
      go_ret
      exact ⟨false, rfl, ⟨(fun h => by cases h), fun h => absurd (by have := h.len; rw [HQ.out, HN.out] at this; exact this.symm) HL.out⟩, HB.out⟩
end Go.Proofs.YtdmbppgogdkpdaaGreatDoor
namespace Go.Proofs.YtdmbppgogdkpdaaGreatDoor
open Go.RowKit
end Go.Proofs.YtdmbppgogdkpdaaGreatDoor
namespace Go.Proofs.YtdmbppgogdkpdaaGreatDoor
open Go.RowKit
def RetA (w : World) (r c : Int) (l : List Val) (e : Ending) (w' : World) : Prop := ∃ A n ca, e = .returned (.agg #[.int .i64 r, .int .i64 c, .slice A n ca]) ∧ l.length = n ∧ ManyR Val.cs 6 w' A l ∧ (∀ a, A = some a → w.heap.size ≤ a.block) ∧ Below w.heap.size w w'
theorem manyR_put3 {W : World} {A : Option Addr} {l : List Val} {X : Nat} (h : ManyR Val.cs 6 W A l) (hx : ∀ a, A = some a → a.block ≠ X) (a b c : Value) : ManyR Val.cs 6 (put3 W X a b c) A l := fun hl => by
  obtain ⟨g, off, rfl, hlt, hc⟩ := h hl
  have hne := hx _ rfl
  refine ⟨g, off, rfl, by unfold put3; simpa using hlt, fun i hi j v hv => ?_⟩
  have ne : ∀ o, (⟨X, o, none⟩ : Addr) ≠ ⟨g, off + i * 6 + j, none⟩ := fun o e => hne (by cases e; rfl)
  unfold put3
  rw [World.cell?_setCell_other _ _ _ _ (ne 2), World.cell?_setCell_other _ _ _ _ (ne 1), World.cell?_setCell_other _ _ _ _ (ne 0)]
  exact hc i hi j v hv
theorem manyR_one {W : World} {g : Nat} {ty : TypeId} {k m e f : Int} {t : ByteArray} {b : Bool} (h : Blk W g ty #[.int .i64 k, .int .i64 m, .int .i64 e, .string t, .bool b, .int .i64 f]) : ManyR Val.cs 6 W (some ⟨g, 0, none⟩) [⟨k, m, e, t, b, f⟩] := fun _ => by
  refine ⟨g, 0, rfl, h.lt, fun i hi j v hv => ?_⟩
  obtain rfl : i = 0 := by simp at hi; exact hi
  rw [show 0 + 0 * 6 + j = j by omega, h.cell j]
  simpa [Val.cs] using hv
set_option maxRecDepth 100000 in
set_option maxHeartbeats 4000000 in
theorem one_c (x : Val) (hr : RightV x) (hf : FitsV x) (w : World) : Calls Tryz.prog 127 #[.agg x.cs.toArray] w (RetA w 1 1 [x]) := by
  have HR := Lib.hid hr
  obtain ⟨k, m, e, t, b, f⟩ := x
  have HV := Lib.hid (fun W => show Calls Tryz.prog 126 #[.agg #[.int .i64 k, .int .i64 m, .int .i64 e, .string t, .bool b, .int .i64 f]] W (RgV W ⟨k, m, e, t, b, f⟩) from vright_c ⟨k, m, e, t, b, f⟩ hf.1 hf.2.1 hf.2.2.1 hf.2.2.2 W)
  clear hr hf
  show Calls Tryz.prog 127 #[.agg #[.int .i64 k, .int .i64 m, .int .i64 e, .string t, .bool b, .int .i64 f]] w _
  have HB := Lib.hid (((Below.refl _ w).alloc (Nat.le_refl _) (.cells #[.int .i64 k, .int .i64 m, .int .i64 e, .string t, .bool b, .int .i64 f] 41)).alloc (by simp) (.cells #[.int .i64 0, .int .i64 0, .slice none 0 0] 28))
  have BX := Lib.hid ((Blk.new w 41 #[.int .i64 k, .int .i64 m, .int .i64 e, .string t, .bool b, .int .i64 f]).alloc (.cells #[.int .i64 0, .int .i64 0, .slice none 0 0] 28))
  have BY := Lib.hid (show Blk ((w.alloc (.cells #[.int .i64 k, .int .i64 m, .int .i64 e, .string t, .bool b, .int .i64 f] 41)).alloc (.cells #[.int .i64 0, .int .i64 0, .slice none 0 0] 28)) (w.heap.size + 1) 28 #[.int .i64 0, .int .i64 0, .slice none 0 0] by
    have := Blk.new (w.alloc (.cells #[.int .i64 k, .int .i64 m, .int .i64 e, .string t, .bool b, .int .i64 f] 41)) 28 #[.int .i64 0, .int .i64 0, .slice none 0 0]
    rwa [show (w.alloc (.cells #[.int .i64 k, .int .i64 m, .int .i64 e, .string t, .bool b, .int .i64 f] 41)).heap.size = w.heap.size + 1 by simp] at this)
  go_enter Tryz.func127, Tryz.ntmps127
  go_wp2_with fail
  generalize ((w.alloc (.cells #[.int .i64 k, .int .i64 m, .int .i64 e, .string t, .bool b, .int .i64 f] 41)).alloc (.cells #[.int .i64 0, .int .i64 0, .slice none 0 0] 28)) = V at *
  refine (HV.out _).mono ?_
  rintro y w1 ⟨b1, rfl, r1, B1⟩
  have BX1 := Lib.hid (BX.out.kept (B1.block _ BX.out.lt))
  have BY1 := Lib.hid ((BY.out.kept (B1.block _ BY.out.lt)).alloc (.cells #[.int .i64 k, .int .i64 m, .int .i64 e, .string t, .bool b, .int .i64 f] 41))
  have HY1 := Lib.hid (show w.heap.size + 1 < w1.heap.size from Nat.lt_of_lt_of_le BY.out.lt B1.size)
  have HB1 := Lib.hid ((HB.out.trans (B1.mono HB.out.size)).alloc (Nat.le_trans HB.out.size B1.size) (.cells #[.int .i64 k, .int .i64 m, .int .i64 e, .string t, .bool b, .int .i64 f] 41))
  obtain rfl : b1 = true := r1.2 HR.out
  clear B1 r1 HB BX BY
  have c0 := BX1.out.cell 0
  have c1 := BX1.out.cell 1
  have c2 := BX1.out.cell 2
  have c3 := BX1.out.cell 3
  have c4 := BX1.out.cell 4
  have c5 := BX1.out.cell 5
  simp only [List.getElem?_toArray, List.getElem?_cons_zero, List.getElem?_cons_succ] at c0 c1 c2 c3 c4 c5
  have e0 := BY1.out.cell 0
  have e1 := BY1.out.cell 1
  have e2 := BY1.out.cell 2
  simp only [List.getElem?_toArray, List.getElem?_cons_zero, List.getElem?_cons_succ] at e0 e1 e2
  have f0 := BY1.out.frozen 0
  have f1 := BY1.out.frozen 1
  have f2 := BY1.out.frozen 2
  have lX := BY1.out.lt
  go_wp2_with fail
  change bodyPost _ _ _ _ _ (put3 (w1.alloc (.cells #[.int .i64 k, .int .i64 m, .int .i64 e, .string t, .bool b, .int .i64 f] 41)) (w.heap.size + 1) (.int .i64 1) (.int .i64 1) (.slice (some ⟨w1.heap.size, 0, none⟩) 1 1))
  have BZ := blk_put3far (Blk.new w1 41 #[.int .i64 k, .int .i64 m, .int .i64 e, .string t, .bool b, .int .i64 f]) (show w1.heap.size ≠ w.heap.size + 1 from fun h => by have := HY1.out; omega) (.int .i64 1) (.int .i64 1) (.slice (some ⟨w1.heap.size, 0, none⟩) 1 1)
  have bX2 := Lib.hid (blk_put3 BY1.out (.int .i64 1) (.int .i64 1) (.slice (some ⟨w1.heap.size, 0, none⟩) 1 1))
  have HB2 := below_put3 HB1.out (Nat.le_succ _) (.int .i64 1) (.int .i64 1) (.slice (some ⟨w1.heap.size, 0, none⟩) 1 1)
  generalize put3 (w1.alloc (.cells #[.int .i64 k, .int .i64 m, .int .i64 e, .string t, .bool b, .int .i64 f] 41)) (w.heap.size + 1) (.int .i64 1) (.int .i64 1) (.slice (some ⟨w1.heap.size, 0, none⟩) 1 1) = W2 at *
  have d0 := bX2.out.cell 0
  have d1 := bX2.out.cell 1
  have d2 := bX2.out.cell 2
  simp only [List.getElem?_toArray, List.getElem?_cons_zero, List.getElem?_cons_succ] at d0 d1 d2
  exact bodyPost_ret (v := .agg #[.int .i64 1, .int .i64 1, .slice (some ⟨w1.heap.size, 0, none⟩) 1 1]) (by simp [results, Tryz.f127, go_sem, d0, d1, d2]) rfl ⟨_, _, _, rfl, rfl, manyR_one BZ, fun a h => by cases h; have := HY1.out; show w.heap.size ≤ w1.heap.size; omega, HB2⟩
end Go.Proofs.YtdmbppgogdkpdaaGreatDoor
namespace Go.Proofs.YtdmbppgogdkpdaaGreatDoor
open Go.RowKit
def SameP (w : World) (r c r' c' : Int) (l l' : List Val) (e : Ending) (w' : World) : Prop := ∃ b : Bool, e = .returned (.bool b) ∧ (b = true ↔ r = r' ∧ c = c' ∧ l = l') ∧ Below w.heap.size w w'
set_option maxRecDepth 100000 in
set_option maxHeartbeats 4000000 in
theorem same_c (r c r' c' : Int) (A A' : Option Addr) (n ca n' ca' : Nat) (l l' : List Val) (w : World) (hA : ManyR Val.cs 6 w A l) (hA' : ManyR Val.cs 6 w A' l') (hn : l.length = n) (hn' : l'.length = n') (hm : n ≤ 4096) :
    Calls Tryz.prog 17 #[.agg #[.int .i64 r, .int .i64 c, .slice A n ca], .agg #[.int .i64 r', .int .i64 c', .slice A' n' ca']] w (SameP w r c r' c' l l') := by
  have HA := Lib.hid hA
  have HA' := Lib.hid hA'
  have HN := Lib.hid hn
  have HN' := Lib.hid hn'
  clear hA hA' hn hn'
  have BX := Lib.hid ((Blk.new w 28 #[.int .i64 r, .int .i64 c, .slice A n ca]).alloc (.cells #[.int .i64 r', .int .i64 c', .slice A' n' ca'] 28))
  have HB := Lib.hid (((Below.refl _ w).alloc (Nat.le_refl _) (.cells #[.int .i64 r, .int .i64 c, .slice A n ca] 28)).alloc (by simp) (.cells #[.int .i64 r', .int .i64 c', .slice A' n' ca'] 28))
  have BY := Lib.hid (show Blk ((w.alloc (.cells #[.int .i64 r, .int .i64 c, .slice A n ca] 28)).alloc (.cells #[.int .i64 r', .int .i64 c', .slice A' n' ca'] 28)) (w.heap.size + 1) 28 #[.int .i64 r', .int .i64 c', .slice A' n' ca'] by
    have := Blk.new (w.alloc (.cells #[.int .i64 r, .int .i64 c, .slice A n ca] 28)) 28 #[.int .i64 r', .int .i64 c', .slice A' n' ca']
    rwa [show (w.alloc (.cells #[.int .i64 r, .int .i64 c, .slice A n ca] 28)).heap.size = w.heap.size + 1 by simp] at this)
  by_cases h1 : r = r'
  case neg =>
    have hb : (r != r') = true := by simp [h1]
    have H := Lib.hid h1
    clear h1
    go_enter Tryz.func17, Tryz.ntmps17
    go_wp2_with fail
    go_ret
    exact ⟨false, rfl, ⟨(fun h => by cases h), fun h => absurd h.1 H.out⟩, HB.out⟩
  by_cases h2 : c = c'
  case neg =>
    have hb : (r != r') = false := by simp [h1]
    have hb2 : (c != c') = true := by simp [h2]
    have H := Lib.hid h2
    clear h1 h2
    go_enter Tryz.func17, Tryz.ntmps17
    go_wp2_with fail
    go_ret
    exact ⟨false, rfl, ⟨(fun h => by cases h), fun h => absurd h.2.1 H.out⟩, HB.out⟩
  by_cases h3 : n = n'
  case neg =>
    have hb : (r != r') = false := by simp [h1]
    have hb2 : (c != c') = false := by simp [h2]
    have hb3 : ((n : Int) != (n' : Int)) = true := by simp; omega
    have H := Lib.hid h3
    clear h1 h2 h3
    go_enter Tryz.func17, Tryz.ntmps17
    go_wp2_with fail
    go_ret
    exact ⟨false, rfl, ⟨(fun h => by cases h), fun h => absurd (by rw [← HN.out, ← HN'.out, h.2.2]) H.out⟩, HB.out⟩
  have hb : (r != r') = false := by simp [h1]
  have hb2 : (c != c') = false := by simp [h2]
  have hb3 : ((n : Int) != (n' : Int)) = false := by simp; omega
  have H1 := Lib.hid h1
  have H2 := Lib.hid h2
  have H3 := Lib.hid h3
  clear h1 h2 h3
  go_enter Tryz.func17, Tryz.ntmps17
  go_wp2_with fail
  generalize ((w.alloc (.cells #[.int .i64 r, .int .i64 c, .slice A n ca] 28)).alloc (.cells #[.int .i64 r', .int .i64 c', .slice A' n' ca'] 28)) = V at *
  clear hb hb2 hb3
  go_loopw [5] (fun i wr => ∃ j : Nat, j ≤ n ∧ i = .int .i64 j ∧ Hid (l.take j = l'.take j) ∧ Hid (Below w.heap.size w wr) ∧ Hid (Blk wr w.heap.size 28 #[.int .i64 r, .int .i64 c, .slice A n ca]) ∧ Hid (Blk wr (w.heap.size + 1) 28 #[.int .i64 r', .int .i64 c', .slice A' n' ca'])) (fun i _ => n - (intOf i).toNat)
  case atStart => exact ⟨0, Nat.zero_le _, rfl, Lib.hid (by simp), HB, BX, BY⟩
  case round =>
    obtain ⟨j, hj, rfl, hE, hb, hx, hy⟩ := hrel
    have x2 := hx.out.cell 2
    simp only [List.getElem?_toArray, List.getElem?_cons_zero, List.getElem?_cons_succ] at x2
    by_cases hlt : j < n
    · have hjl : j < l.length := by rw [HN.out]; exact hlt
      have hjl' : j < l'.length := by rw [HN'.out, ← H3.out]; exact hlt
      obtain ⟨bA, oA, rfl, lA, hcA⟩ := (HA.out.next hb.out) (fun e => by rw [e] at hjl; simp at hjl)
      obtain ⟨bB, oB, rfl, lB, hcB⟩ := (HA'.out.next hb.out) (fun e => by rw [e] at hjl'; simp at hjl')
      have gv := hcA j hjl
      have gu := hcB j hjl'
      have HT := Lib.hid (show l.take (j + 1) = l.take j ++ [l[j]] from by rw [List.take_succ_eq_append_getElem hjl])
      have HT' := Lib.hid (show l'.take (j + 1) = l'.take j ++ [l'[j]] from by rw [List.take_succ_eq_append_getElem hjl'])
      have HG := Lib.hid (show l = l' → l[j] = l'[j] from fun h => by subst h; rfl)
      clear hcA hcB
      generalize l[j] = z at *
      generalize l'[j] = u at *
      clear hjl hjl'
      have hzc : z.cs = [.int .i64 z.kind, .int .i64 z.mant, .int .i64 z.exp, .string z.text, .bool z.truth, .int .i64 z.fault] := rfl
      have huc : u.cs = [.int .i64 u.kind, .int .i64 u.mant, .int .i64 u.exp, .string u.text, .bool u.truth, .int .i64 u.fault] := rfl
      obtain ⟨k, m, e, t, b, f⟩ := z
      obtain ⟨k', m', e', t', b', f'⟩ := u
      have c0 := gv 0 _ rfl
      have c1 := gv 1 _ rfl
      have c2 := gv 2 _ rfl
      have c3 := gv 3 _ rfl
      have c4 := gv 4 _ rfl
      have c5 := gv 5 _ rfl
      rw [Nat.add_zero] at c0
      have d0 := gu 0 _ rfl
      have d1 := gu 1 _ rfl
      have d2 := gu 2 _ rfl
      have d3 := gu 3 _ rfl
      have d4 := gu 4 _ rfl
      have d5 := gu 5 _ rfl
      rw [Nat.add_zero] at d0
      have y2 := hy.out.cell 2
      simp only [List.getElem?_toArray, List.getElem?_cons_zero, List.getElem?_cons_succ] at y2
      have HC : AllCells wr.drew [(⟨w.heap.size, 2, none⟩, .slice (some ⟨bA, oA, none⟩) n ca), (⟨w.heap.size + 1, 2, none⟩, .slice (some ⟨bB, oB, none⟩) n' ca'), (⟨bA, oA + j * 6, none⟩, .int .i64 k), (⟨bA, oA + j * 6 + 1, none⟩, .int .i64 m), (⟨bA, oA + j * 6 + 2, none⟩, .int .i64 e), (⟨bA, oA + j * 6 + 3, none⟩, .string t), (⟨bA, oA + j * 6 + 4, none⟩, .bool b), (⟨bA, oA + j * 6 + 5, none⟩, .int .i64 f),
        (⟨bB, oB + j * 6, none⟩, .int .i64 k'), (⟨bB, oB + j * 6 + 1, none⟩, .int .i64 m'), (⟨bB, oB + j * 6 + 2, none⟩, .int .i64 e'), (⟨bB, oB + j * 6 + 3, none⟩, .string t'), (⟨bB, oB + j * 6 + 4, none⟩, .bool b'), (⟨bB, oB + j * 6 + 5, none⟩, .int .i64 f')] := ⟨x2, y2, c0, c1, c2, c3, c4, c5, d0, d1, d2, d3, d4, d5, trivial⟩
      have hb4 := Lib.hid hb.out.drew
      have hx4 := Lib.hid (hx.out.kept (w' := wr.drew) rfl)
      have hy4 := Lib.hid (hy.out.kept (w' := wr.drew) rfl)
      clear gv gu hzc huc c0 c1 c2 c3 c4 c5 d0 d1 d2 d3 d4 d5 y2
      have hj0 : (0 : Int) ≤ (j : Int) := by omega
      have hjn : (j : Int) < (n : Int) := by omega
      have hjn' : (j : Int) < (n' : Int) := by have := H3.out; omega
      have wj : IntKind.i64.wrap ((j : Int) + 1) = (j : Int) + 1 := IntWalk.i64_in _ (by omega)
      go_wp2_with fail
      clear x2 hb hx hy
      refine region_free _ [0, 1, 2, 3, 4, 5, 6, 7, 8, 9, 10] 0 (by kernel_rfl) (by kernel_rfl) (by kernel_rfl) (by kernel_rfl) (by kernel_rfl) (fun _ _ _ _ _ h => h) HC ?_
      intro hne hu
      simp only [AllCells] at hu
      simp only [pick, List.take_succ_cons, List.take_zero, List.drop_succ_cons, List.drop_zero, List.cons_append, List.nil_append]
      repeat (go_big_quiet_step (fail))
      refine wpQuiet_nil ?_
      clear hne hu
      refine ⟨by kernel_rfl, ?_⟩
      clear HC
      cases hv : veq ⟨k, m, e, t, b, f⟩ ⟨k', m', e', t', b', f'⟩
      · have HV := Lib.hid (show ¬ (⟨k, m, e, t, b, f⟩ : Val) = ⟨k', m', e', t', b', f'⟩ from fun h => by rw [veq_true.2 h] at hv; cases hv)
        go_wp2_with fail
        go_ret
        exact ⟨false, rfl, ⟨(fun h => by cases h), fun h => absurd (HG.out h.2.2) HV.out⟩, hb4.out⟩
      · have HV := Lib.hid (veq_true.1 hv)
        go_wp2_with fail
        go_roundw
        case rel => exact ⟨j + 1, hlt, by go_num, Lib.hid (by rw [HT.out, HT'.out, hE.out, HV.out]), hb4, hx4, hy4⟩
        case measure => simp [intOf]; omega
    · obtain rfl : j = n := by omega
      have hjj : decide ((j : Int) < (j : Int)) = false := decide_eq_false (by omega)
      go_wp2_with fail
      go_ret
      refine ⟨true, rfl, ⟨fun _ => ⟨H1.out, H2.out, ?_⟩, fun _ => rfl⟩, hb.out⟩
      have := hE.out
      rwa [List.take_of_length_le (by rw [HN.out]; exact Nat.le_refl _), List.take_of_length_le (by rw [HN'.out, ← H3.out]; exact Nat.le_refl _)] at this
end Go.Proofs.YtdmbppgogdkpdaaGreatDoor
