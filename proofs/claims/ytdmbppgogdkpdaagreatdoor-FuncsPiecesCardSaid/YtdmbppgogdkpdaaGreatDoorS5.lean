/-
  num.Make of a whole number; fmath.whole, told, add, sum; farray.count: their contracts. Condition: the table of powers of ten reads as the program lays it.
  fmath: told, add, sum: their contracts. Conditions: the numbers may be, at most 4096 of them, the table of powers of ten reads as laid.
  fmath: add, sum: their contracts. Conditions: the numbers may be, at most 4096 of them, the table of powers of ten reads as laid.
  fmath.sum, farray.count: their contracts. Conditions: the numbers may be, at most 4096 of them, the table of powers of ten reads as laid.
  fmath.all of one array: its contract. Condition: the array holds at least one value and at most 4096.
-/
import Derived.Test.YtdmbppgogdkpdaaGreatDoorX10
import Derived.Test.YtdmbppgogdkpdaaGreatDoorQ8
import Derived.Test.YtdmbppgogdkpdaaGreatDoorQ18
set_option linter.unusedSectionVars false
namespace Go.Proofs.YtdmbppgogdkpdaaGreatDoor
open Go.RowKit
theorem rightN_zero : RightN 0 0 := ⟨fun _ => rfl, by omega, by omega, fun h => absurd rfl h, by omega, fun h => absurd rfl h⟩
theorem finF_right {neg : Bool} {l : List Int} {e : Int} {p : Int × Int} (h : finF neg l e = some p) : RightN p.1 p.2 := by
  unfold finF at h
  split at h
  · rename_i h1; cases h; exact h1
  · cases h
theorem roundB_right {neg : Bool} {l : List Int} {e : Int} {p : Int × Int} (h : roundB neg l e = some p) : RightN p.1 p.2 := by
  unfold roundB at h
  split at h
  · split at h
    · cases h; exact rightN_zero
    · exact finF_right h
  · exact finF_right h
theorem roundF_right {neg : Bool} {l : List Int} {e : Int} {p : Int × Int} (h : roundF neg l e = some p) : RightN p.1 p.2 := by
  unfold roundF at h
  split at h
  · cases h; exact rightN_zero
  · split at h
    · cases h
    · split at h
      · exact roundB_right h
      · exact roundB_right h
noncomputable def makeF (n : Nat) : Option (Int × Int) := roundF false (digL n) 0
noncomputable def wholeF (n : Nat) : Int × Int := (makeF n).getD (0, 0)
theorem wholeF_right (n : Nat) : RightN (wholeF n).1 (wholeF n).2 := by
  unfold wholeF
  cases h : makeF n with
  | none => exact rightN_zero
  | some p => exact roundF_right h
theorem Below.put2 {n : Nat} {w w1 : World} (h : Below n w w1) {X : Nat} (hX : n ≤ X) (a b : Value) : Below n w (put2 w1 X a b) := (h.setCell (p := ⟨X, 0, none⟩) hX a).setCell (p := ⟨X, 1, none⟩) hX b
set_option maxRecDepth 100000 in
set_option maxHeartbeats 4000000 in
theorem make_c (n : Nat) (hn : n < 9223372036854775808) (w : World) (htab : PowT w) : Calls Tryz.prog 290 #[.int .i64 n, .int .i64 0] w fun x w' => x = .returned (optV (makeF n)) ∧ Below w.heap.size w w' := by
  have HB := Lib.hid ((Below.refl _ w).alloc (Nat.le_refl _) (.cells #[.int .i64 0, .int .i64 0] 39))
  have BX := Lib.hid (Blk.new w 39 #[.int .i64 0, .int .i64 0])
  have HD := Lib.hid (digitsOf_c n (by omega) (w.alloc (.cells #[.int .i64 0, .int .i64 0] 39)) (htab.next HB.out))
  have hnn : ¬ (n : Int) < 0 := by omega
  have hsz : ((n : Int).natAbs : Int) = (n : Int) := by omega
  have HSZ := Lib.hid (fun W => show Calls Tryz.prog 111 #[.int .i64 n] W fun e w' => e = .returned (.int .u64 n) ∧ W = w' by
    have := sizeAny_c (n : Int) (by omega) (by omega) W
    rw [hsz] at this
    exact this)
  have hnd := nDigits_20 (u := n) (by omega)
  clear htab hsz
  go_enter Tryz.func290, Tryz.ntmps290
  go_wp2_with fail
  refine (HSZ.out _).mono ?_
  rintro x w' ⟨rfl, rfl⟩
  go_wp2_with fail
  refine HD.out.mono ?_
  rintro x w2 ⟨B, rfl, hge, hbs, hbl⟩
  have HRD := Lib.hid (round_c false B 0 (Lib.nDigits n) (Lib.nDigits n) (digL n) 0 w2 hbs (by omega) (fun b hb => by have := digL_in n b hb; omega) (by omega) (by omega))
  have BX2 := Lib.hid (BX.out.kept (hbl.block _ BX.out.lt))
  have HB2 := Lib.hid (HB.out.trans (hbl.mono HB.out.size))
  have GE := Lib.hid (show w.heap.size < B from Nat.lt_of_lt_of_le BX.out.lt hge)
  have HMF := Lib.hid (show makeF n = roundF false (digL n) 0 from rfl)
  rw [← HMF.out] at HRD
  clear hge hbs hbl HB BX
  go_wp2_with fail
  refine HRD.out.mono ?_
  rintro x w3 ⟨rfl, hO⟩
  have BX3 := Lib.hid (BX2.out.kept (hO.block _ BX2.out.lt (by have := GE.out; omega)))
  have HB3 := Lib.hid (hO.to_below HB2.out (by have := GE.out; omega))
  clear hO BX2 HB2
  have k0 := BX3.out.cell 0
  have k1 := BX3.out.cell 1
  have f0 := BX3.out.frozen 0
  have f1 := BX3.out.frozen 1
  simp only [List.getElem?_toArray, List.getElem?_cons_zero, List.getElem?_cons_succ] at k0 k1
  cases hR : makeF n with
  | none =>
    have HR := Lib.hid hR
    clear hR
    simp only [optV]
    go_wp2_with fail
    change bodyPost _ _ _ _ _ (put2 w3 w.heap.size (.int .i64 0) (.int .i64 0))
    have bX2 := blk_put2 BX3.out (.int .i64 0) (.int .i64 0)
    have HO9 := Lib.hid (Below.put2 HB3.out (Nat.le_refl _) (.int .i64 0) (.int .i64 0))
    generalize put2 w3 w.heap.size (.int .i64 0) (.int .i64 0) = W2 at *
    have d0 := bX2.cell 0
    have d1 := bX2.cell 1
    simp only [List.getElem?_toArray, List.getElem?_cons_zero, List.getElem?_cons_succ] at d0 d1
    exact bodyPost_ret (v := .tuple #[.agg #[.int .i64 0, .int .i64 0], .bool false]) (by simp [results, Tryz.f290, go_sem, d0, d1]) rfl ⟨(by rw [HR.out]; rfl), HO9.out⟩
  | some p =>
    obtain ⟨p1, p2⟩ := p
    have HR := Lib.hid hR
    clear hR
    simp only [optV]
    go_wp2_with fail
    change bodyPost _ _ _ _ _ (put2 w3 w.heap.size (.int .i64 p1) (.int .i64 p2))
    have bX2 := blk_put2 BX3.out (.int .i64 p1) (.int .i64 p2)
    have HO9 := Lib.hid (Below.put2 HB3.out (Nat.le_refl _) (.int .i64 p1) (.int .i64 p2))
    generalize put2 w3 w.heap.size (.int .i64 p1) (.int .i64 p2) = W2 at *
    have d0 := bX2.cell 0
    have d1 := bX2.cell 1
    simp only [List.getElem?_toArray, List.getElem?_cons_zero, List.getElem?_cons_succ] at d0 d1
    exact bodyPost_ret (v := .tuple #[.agg #[.int .i64 p1, .int .i64 p2], .bool true]) (by simp [results, Tryz.f290, go_sem, d0, d1]) rfl ⟨(by rw [HR.out]; rfl), HO9.out⟩
theorem optV_parts (r : Option (Int × Int)) : ∃ (b : Bool) (p1 p2 : Int), optV r = .tuple #[.agg #[.int .i64 p1, .int .i64 p2], .bool b] ∧ r.getD (0, 0) = (p1, p2) ∧ (b = true → r = some (p1, p2)) ∧ (b = false → r = none) := by
  cases r with
  | none => exact ⟨false, 0, 0, rfl, rfl, (fun h => by cases h), fun _ => rfl⟩
  | some p => exact ⟨true, p.1, p.2, rfl, rfl, fun _ => rfl, (fun h => by cases h)⟩
end Go.Proofs.YtdmbppgogdkpdaaGreatDoor
namespace Go.Proofs.YtdmbppgogdkpdaaGreatDoor
open Go.RowKit
def okV (p : Int × Int) : Val := ⟨1, p.1, p.2, ⟨#[]⟩, false, 0⟩
def toldV (p : Int × Int) (ok : Bool) : Val := if ok then okV p else badV 5
theorem toldV_right {p : Int × Int} {ok : Bool} (h : ok = true → RightN p.1 p.2) : RightV (toldV p ok) := by
  unfold toldV
  split
  · rename_i h1; exact rightV1.2 ⟨h h1, tnil.1 rfl, rfl, rfl⟩
  · exact rightV_bad 5
theorem RightN.fits {m e : Int} (h : RightN m e) : -9223372036854775808 ≤ m ∧ m ≤ 9223372036854775807 ∧ -9223372036854775808 ≤ e ∧ e ≤ 9223372036854775807 := by
  have h1 := h.lo
  have h2 := h.hi
  have h3 := h.elo
  have h4 : e ≤ 40 := by
    by_cases h0 : m = 0
    · have := h.zero h0; omega
    · have := h.top h0; omega
  omega
end Go.Proofs.YtdmbppgogdkpdaaGreatDoor
namespace Go.Proofs.YtdmbppgogdkpdaaGreatDoor
open Go.RowKit
end Go.Proofs.YtdmbppgogdkpdaaGreatDoor
namespace Go.Proofs.YtdmbppgogdkpdaaGreatDoor
open Go.RowKit
noncomputable def countV (n : Nat) : Val := okV (wholeF n)
theorem countV_right (n : Nat) : RightV (countV n) := toldV_right (p := wholeF n) (ok := true) (fun _ => wholeF_right n)
theorem countV_fits (n : Nat) : FitsV (countV n) := (wholeF_right n).fits
set_option maxRecDepth 100000 in
set_option maxHeartbeats 4000000 in
theorem acount_c (n : Nat) (hn : n < 9223372036854775808) (w : World) (htab : PowT w) : Calls Tryz.prog 203 #[.int .i64 n] w fun x w' => x = .returned (.agg (countV n).cs.toArray) ∧ Below w.heap.size w w' := by
  have HB := Lib.hid ((Below.refl _ w).alloc (Nat.le_refl _) (.cells #[.int .i64 0, .int .i64 0, .int .i64 0, .string ⟨#[]⟩, .bool false, .int .i64 0] 41))
  have BX := Lib.hid (Blk.new w 41 #[.int .i64 0, .int .i64 0, .int .i64 0, .string ⟨#[]⟩, .bool false, .int .i64 0])
  have HM := make_c n hn (w.alloc (.cells #[.int .i64 0, .int .i64 0, .int .i64 0, .string ⟨#[]⟩, .bool false, .int .i64 0] 41)) (htab.next HB.out)
  obtain ⟨b, p1, p2, he, hp, _, _⟩ := optV_parts (makeF n)
  rw [he] at HM
  have HMM := Lib.hid HM
  have HW := Lib.hid (show countV n = ⟨1, p1, p2, ⟨#[]⟩, false, 0⟩ by unfold countV wholeF; rw [hp]; rfl)
  have HO := Lib.hid (fun W => vof_c p1 p2 W)
  rw [HW.out]
  clear htab HM he hp
  go_enter Tryz.func203, Tryz.ntmps203
  go_wp2_with fail
  refine HMM.out.mono ?_
  rintro x w2 ⟨rfl, hbl⟩
  have BX2 := Lib.hid ((BX.out.kept (hbl.block _ BX.out.lt)).alloc (.cells #[.int .i64 p1, .int .i64 p2] 39))
  have HB2 := Lib.hid ((HB.out.trans (hbl.mono HB.out.size)).alloc (Nat.le_trans HB.out.size hbl.size) (.cells #[.int .i64 p1, .int .i64 p2] 39))
  clear hbl HB BX
  go_wp2_with fail
  refine (HO.out _).mono ?_
  rintro x w3 ⟨rfl, B1⟩
  have BX3 := Lib.hid (BX2.out.kept (B1.block _ BX2.out.lt))
  have HB3 := Lib.hid (HB2.out.trans (B1.mono HB2.out.size))
  clear B1 BX2 HB2
  have c0 := BX3.out.cell 0
  have c1 := BX3.out.cell 1
  have c2 := BX3.out.cell 2
  have c3 := BX3.out.cell 3
  have c4 := BX3.out.cell 4
  have c5 := BX3.out.cell 5
  simp only [List.getElem?_toArray, List.getElem?_cons_zero, List.getElem?_cons_succ] at c0 c1 c2 c3 c4 c5
  have f0 := BX3.out.frozen 0
  have f1 := BX3.out.frozen 1
  have f2 := BX3.out.frozen 2
  have f3 := BX3.out.frozen 3
  have f4 := BX3.out.frozen 4
  have f5 := BX3.out.frozen 5
  have lX := BX3.out.lt
  go_wp2_with fail
  change bodyPost _ _ _ _ _ (put6 w3 w.heap.size (.int .i64 1) (.int .i64 p1) (.int .i64 p2) (.string ⟨#[]⟩) (.bool false) (.int .i64 0))
  have bX2 := Lib.hid (blk_put6 BX3.out (.int .i64 1) (.int .i64 p1) (.int .i64 p2) (.string ⟨#[]⟩) (.bool false) (.int .i64 0))
  have HO9 := Lib.hid (below_put6 HB3.out (Nat.le_refl _) (.int .i64 1) (.int .i64 p1) (.int .i64 p2) (.string ⟨#[]⟩) (.bool false) (.int .i64 0))
  generalize put6 w3 w.heap.size (.int .i64 1) (.int .i64 p1) (.int .i64 p2) (.string ⟨#[]⟩) (.bool false) (.int .i64 0) = W2 at *
  have d0 := bX2.out.cell 0
  have d1 := bX2.out.cell 1
  have d2 := bX2.out.cell 2
  have d3 := bX2.out.cell 3
  have d4 := bX2.out.cell 4
  have d5 := bX2.out.cell 5
  simp only [List.getElem?_toArray, List.getElem?_cons_zero, List.getElem?_cons_succ] at d0 d1 d2 d3 d4 d5
  exact bodyPost_ret (v := .agg #[(.int .i64 1), (.int .i64 p1), (.int .i64 p2), (.string ⟨#[]⟩), (.bool false), (.int .i64 0)]) (by simp [results, Tryz.f203, go_sem, d0, d1, d2, d3, d4, d5]) rfl ⟨rfl, HO9.out⟩
end Go.Proofs.YtdmbppgogdkpdaaGreatDoor
namespace Go.Proofs.YtdmbppgogdkpdaaGreatDoor
open Go.RowKit
theorem add_at (g o j : Nat) : (⟨g, o, none⟩ : Addr).add j = ⟨g, o + j, none⟩ := by unfold Addr.add; split <;> simp_all
theorem flat_get {α : Type} {f : α → List Value} {k : Nat} (hf : ∀ z, (f z).length = k) : ∀ (l : List α) (i : Nat) (h : i < l.length) (j : Nat) (v : Value), (f l[i])[j]? = some v → (l.flatMap f)[i * k + j]? = some v
  | [], i, h, _, _, _ => by simp at h
  | z :: l, 0, _, j, v, hv => by
    have hj : j < (f z).length := (List.getElem?_eq_some_iff.1 hv).1
    rw [List.flatMap_cons, Nat.zero_mul, Nat.zero_add, List.getElem?_append_left hj]
    exact hv
  | z :: l, i + 1, h, j, v, hv => by
    have ih := flat_get hf l i (by simpa using h) j v hv
    rw [List.flatMap_cons, List.getElem?_append_right (by rw [hf, Nat.succ_mul]; omega), hf, show (i + 1) * k + j - k = i * k + j by rw [Nat.succ_mul]; omega]
    exact ih
theorem flat_len {α : Type} {f : α → List Value} {k : Nat} (hf : ∀ z, (f z).length = k) : ∀ (l : List α), (l.flatMap f).length = l.length * k
  | [] => by simp
  | z :: l => by rw [List.flatMap_cons, List.length_append, hf, flat_len hf l, List.length_cons, Nat.succ_mul]; omega
theorem manyR_of_row {α : Type} {f : α → List Value} {k : Nat} (hf : ∀ z, (f z).length = k) (hk : 0 < k) {w : World} {base : Nat} {e : TypeId} {A : Option Addr} {n c : Nat} {l : List α} (h : w.ownsRow base e k (.slice A n c) n (l.flatMap f)) :
    l.length = n ∧ ManyR f k w A l := by
  have hn : l.length = n := by
    have := h.1
    rw [flat_len hf] at this
    exact Nat.eq_of_mul_eq_mul_right hk this
  refine ⟨hn, fun hl => ?_⟩
  rcases h.2 with ⟨hv, h0⟩ | ⟨g, cap, cur, hv, _, hg, _⟩
  · exact absurd (List.length_eq_zero_iff.1 (hn.trans h0)) hl
  · cases hv
    refine ⟨g, 0, rfl, (Array.getElem?_eq_some_iff.1 hg).1, fun i hi j v hv => ?_⟩
    have c1 := h.cells (g := g) rfl _ _ (flat_get hf l i hi j v hv)
    rw [add_at] at c1
    rw [Nat.add_assoc]
    exact c1
theorem Tryz.infoV : (Tryz.prog.info? 41).map (fun i => (i.zero, i.size, i.bytes)) = some (some (.agg #[.int .i64 0, .int .i64 0, .int .i64 0, .string ⟨#[]⟩, .bool false, .int .i64 0]), 6, 56) := by kernel_rfl
end Go.Proofs.YtdmbppgogdkpdaaGreatDoor
