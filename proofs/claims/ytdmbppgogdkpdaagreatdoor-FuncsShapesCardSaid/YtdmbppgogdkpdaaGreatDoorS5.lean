/-
  num.Make of a whole number; fmath.whole, told, add, sum; farray.count: their contracts. Condition: the table of powers of ten reads as the program lays it.
  fmath: told, add, sum: their contracts. Conditions: the numbers may be, at most 4096 of them, the table of powers of ten reads as laid.
  fmath: add, sum: their contracts. Conditions: the numbers may be, at most 4096 of them, the table of powers of ten reads as laid.
  fmath.sum, farray.count: their contracts. Conditions: the numbers may be, at most 4096 of them, the table of powers of ten reads as laid.
  fmath.all of one array: its contract. Condition: the array holds at least one value and at most 4096.
-/
import Derived.Test.YtdmbppgogdkpdaaGreatDoorX10
import Derived.Test.YtdmbppgogdkpdaaGreatDoorQ8
import Derived.Test.YtdmbppgogdkpdaaGreatDoorQ18
set_option linter.unusedSectionVars false
namespace Go.Proofs.YtdmbppgogdkpdaaGreatDoor
open Go.RowKit
theorem rightN_zero : RightN 0 0 := ⟨fun _ => rfl, by omega, by omega, fun h => absurd rfl h, by omega, fun h => absurd rfl h⟩
theorem finF_right {neg : Bool} {l : List Int} {e : Int} {p : Int × Int} (h : finF neg l e = some p) : RightN p.1 p.2 := by
  unfold finF at h
  split at h
  · rename_i h1; cases h; exact h1
  · cases h
theorem roundB_right {neg : Bool} {l : List Int} {e : Int} {p : Int × Int} (h : roundB neg l e = some p) : RightN p.1 p.2 := by
  unfold roundB at h
  split at h
  · split at h
    · cases h; exact rightN_zero
    · exact finF_right h
  · exact finF_right h
theorem roundF_right {neg : Bool} {l : List Int} {e : Int} {p : Int × Int} (h : roundF neg l e = some p) : RightN p.1 p.2 := by
  unfold roundF at h
  split at h
  · cases h; exact rightN_zero
  · split at h
    · cases h
    · split at h
      · exact roundB_right h
      · exact roundB_right h
theorem addF_right {m1 e1 m2 e2 : Int} {p : Int × Int} (h : addF m1 e1 m2 e2 = some p) : RightN p.1 p.2 := roundF_right h
noncomputable def makeF (n : Nat) : Option (Int × Int) := roundF false (digL n) 0
noncomputable def wholeF (n : Nat) : Int × Int := (makeF n).getD (0, 0)
theorem wholeF_right (n : Nat) : RightN (wholeF n).1 (wholeF n).2 := by
  unfold wholeF
  cases h : makeF n with
  | none => exact rightN_zero
  | some p => exact roundF_right h
theorem Below.put2 {n : Nat} {w w1 : World} (h : Below n w w1) {X : Nat} (hX : n ≤ X) (a b : Value) : Below n w (put2 w1 X a b) := (h.setCell (p := ⟨X, 0, none⟩) hX a).setCell (p := ⟨X, 1, none⟩) hX b
set_option maxRecDepth 100000 in
set_option maxHeartbeats 4000000 in
theorem make_c (n : Nat) (hn : n < 9223372036854775808) (w : World) (htab : PowT w) : Calls Tryz.prog 290 #[.int .i64 n, .int .i64 0] w fun x w' => x = .returned (optV (makeF n)) ∧ Below w.heap.size w w' := by
  have HB := Lib.hid ((Below.refl _ w).alloc (Nat.le_refl _) (.cells #[.int .i64 0, .int .i64 0] 39))
  have BX := Lib.hid (Blk.new w 39 #[.int .i64 0, .int .i64 0])
  have HD := Lib.hid (digitsOf_c n (by omega) (w.alloc (.cells #[.int .i64 0, .int .i64 0] 39)) (htab.next HB.out))
  have hnn : ¬ (n : Int) < 0 := by omega
  have hsz : ((n : Int).natAbs : Int) = (n : Int) := by omega
  have HSZ := Lib.hid (fun W => show Calls Tryz.prog 111 #[.int .i64 n] W fun e w' => e = .returned (.int .u64 n) ∧ W = w' by
    have := sizeAny_c (n : Int) (by omega) (by omega) W
    rw [hsz] at this
    exact this)
  have hnd := nDigits_20 (u := n) (by omega)
  clear htab hsz
  go_enter Tryz.func290, Tryz.ntmps290
  go_wp2_with fail
  refine (HSZ.out _).mono ?_
  rintro x w' ⟨rfl, rfl⟩
  go_wp2_with fail
  refine HD.out.mono ?_
  rintro x w2 ⟨B, rfl, hge, hbs, hbl⟩
  have HRD := Lib.hid (round_c false B 0 (Lib.nDigits n) (Lib.nDigits n) (digL n) 0 w2 hbs (by omega) (fun b hb => by have := digL_in n b hb; omega) (by omega) (by omega))
  have BX2 := Lib.hid (BX.out.kept (hbl.block _ BX.out.lt))
  have HB2 := Lib.hid (HB.out.trans (hbl.mono HB.out.size))
  have GE := Lib.hid (show w.heap.size < B from Nat.lt_of_lt_of_le BX.out.lt hge)
  have HMF := Lib.hid (show makeF n = roundF false (digL n) 0 from rfl)
  rw [← HMF.out] at HRD
  clear hge hbs hbl HB BX
  go_wp2_with fail
  refine HRD.out.mono ?_
  rintro x w3 ⟨rfl, hO⟩
  have BX3 := Lib.hid (BX2.out.kept (hO.block _ BX2.out.lt (by have := GE.out; omega)))
  have HB3 := Lib.hid (hO.to_below HB2.out (by have := GE.out; omega))
  clear hO BX2 HB2
  have k0 := BX3.out.cell 0
  have k1 := BX3.out.cell 1
  have f0 := BX3.out.frozen 0
  have f1 := BX3.out.frozen 1
  simp only [List.getElem?_toArray, List.getElem?_cons_zero, List.getElem?_cons_succ] at k0 k1
  cases hR : makeF n with
  | none =>
    have HR := Lib.hid hR
    clear hR
    simp only [optV]
    go_wp2_with fail
    change bodyPost _ _ _ _ _ (put2 w3 w.heap.size (.int .i64 0) (.int .i64 0))
    have bX2 := blk_put2 BX3.out (.int .i64 0) (.int .i64 0)
    have HO9 := Lib.hid (Below.put2 HB3.out (Nat.le_refl _) (.int .i64 0) (.int .i64 0))
    generalize put2 w3 w.heap.size (.int .i64 0) (.int .i64 0) = W2 at *
    have d0 := bX2.cell 0
    have d1 := bX2.cell 1
    simp only [List.getElem?_toArray, List.getElem?_cons_zero, List.getElem?_cons_succ] at d0 d1
    exact bodyPost_ret (v := .tuple #[.agg #[.int .i64 0, .int .i64 0], .bool false]) (by simp [results, Tryz.f290, go_sem, d0, d1]) rfl ⟨(by rw [HR.out]; rfl), HO9.out⟩
  | some p =>
    obtain ⟨p1, p2⟩ := p
    have HR := Lib.hid hR
    clear hR
    simp only [optV]
    go_wp2_with fail
    change bodyPost _ _ _ _ _ (put2 w3 w.heap.size (.int .i64 p1) (.int .i64 p2))
    have bX2 := blk_put2 BX3.out (.int .i64 p1) (.int .i64 p2)
    have HO9 := Lib.hid (Below.put2 HB3.out (Nat.le_refl _) (.int .i64 p1) (.int .i64 p2))
    generalize put2 w3 w.heap.size (.int .i64 p1) (.int .i64 p2) = W2 at *
    have d0 := bX2.cell 0
    have d1 := bX2.cell 1
    simp only [List.getElem?_toArray, List.getElem?_cons_zero, List.getElem?_cons_succ] at d0 d1
    exact bodyPost_ret (v := .tuple #[.agg #[.int .i64 p1, .int .i64 p2], .bool true]) (by simp [results, Tryz.f290, go_sem, d0, d1]) rfl ⟨(by rw [HR.out]; rfl), HO9.out⟩
def wholeV (p : Int × Int) : Value := .agg #[.int .i64 p.1, .int .i64 p.2]
theorem optV_parts (r : Option (Int × Int)) : ∃ (b : Bool) (p1 p2 : Int), optV r = .tuple #[.agg #[.int .i64 p1, .int .i64 p2], .bool b] ∧ r.getD (0, 0) = (p1, p2) ∧ (b = true → r = some (p1, p2)) ∧ (b = false → r = none) := by
  cases r with
  | none => exact ⟨false, 0, 0, rfl, rfl, (fun h => by cases h), fun _ => rfl⟩
  | some p => exact ⟨true, p.1, p.2, rfl, rfl, fun _ => rfl, (fun h => by cases h)⟩
set_option maxRecDepth 100000 in
set_option maxHeartbeats 4000000 in
theorem whole_c (n : Nat) (hn : n < 9223372036854775808) (w : World) (htab : PowT w) : Calls Tryz.prog 249 #[.int .i64 n] w fun x w' => x = .returned (wholeV (wholeF n)) ∧ Below w.heap.size w w' := by
  have HB := Lib.hid ((Below.refl _ w).alloc (Nat.le_refl _) (.cells #[.int .i64 0, .int .i64 0] 39))
  have BX := Lib.hid (Blk.new w 39 #[.int .i64 0, .int .i64 0])
  have HM := make_c n hn (w.alloc (.cells #[.int .i64 0, .int .i64 0] 39)) (htab.next HB.out)
  obtain ⟨b, p1, p2, he, hp, _, _⟩ := optV_parts (makeF n)
  rw [he] at HM
  have HMM := Lib.hid HM
  have HW := Lib.hid (show wholeF n = (p1, p2) from hp)
  clear htab HM he hp
  go_enter Tryz.func249, Tryz.ntmps249
  go_wp2_with fail
  refine HMM.out.mono ?_
  rintro x w2 ⟨rfl, hbl⟩
  have BX2 := Lib.hid ((BX.out.kept (hbl.block _ BX.out.lt)).alloc (.cells #[.int .i64 p1, .int .i64 p2] 39))
  have HB2 := Lib.hid ((HB.out.trans (hbl.mono HB.out.size)).alloc (Nat.le_trans HB.out.size hbl.size) (.cells #[.int .i64 p1, .int .i64 p2] 39))
  clear hbl HB BX
  have k0 := BX2.out.cell 0
  have k1 := BX2.out.cell 1
  have f0 := BX2.out.frozen 0
  have f1 := BX2.out.frozen 1
  simp only [List.getElem?_toArray, List.getElem?_cons_zero, List.getElem?_cons_succ] at k0 k1
  go_wp2_with fail
  change bodyPost _ _ _ _ _ (put2 (w2.alloc (.cells #[.int .i64 p1, .int .i64 p2] 39)) w.heap.size (.int .i64 p1) (.int .i64 p2))
  have bX2 := blk_put2 BX2.out (.int .i64 p1) (.int .i64 p2)
  have HO9 := Lib.hid (Below.put2 HB2.out (Nat.le_refl _) (.int .i64 p1) (.int .i64 p2))
  generalize put2 (w2.alloc (.cells #[.int .i64 p1, .int .i64 p2] 39)) w.heap.size (.int .i64 p1) (.int .i64 p2) = W2 at *
  have d0 := bX2.cell 0
  have d1 := bX2.cell 1
  simp only [List.getElem?_toArray, List.getElem?_cons_zero, List.getElem?_cons_succ] at d0 d1
  exact bodyPost_ret (v := .agg #[.int .i64 p1, .int .i64 p2]) (by simp [results, Tryz.f249, go_sem, d0, d1]) rfl ⟨(by rw [HW.out]; rfl), HO9.out⟩
end Go.Proofs.YtdmbppgogdkpdaaGreatDoor
namespace Go.Proofs.YtdmbppgogdkpdaaGreatDoor
open Go.RowKit
def okV (p : Int × Int) : Val := ⟨1, p.1, p.2, ⟨#[]⟩, false, 0⟩
def toldV (p : Int × Int) (ok : Bool) : Val := if ok then okV p else badV 5
theorem toldV_right {p : Int × Int} {ok : Bool} (h : ok = true → RightN p.1 p.2) : RightV (toldV p ok) := by
  unfold toldV
  split
  · rename_i h1; exact rightV1.2 ⟨h h1, tnil.1 rfl, rfl, rfl⟩
  · exact rightV_bad 5
theorem RightN.fits {m e : Int} (h : RightN m e) : -9223372036854775808 ≤ m ∧ m ≤ 9223372036854775807 ∧ -9223372036854775808 ≤ e ∧ e ≤ 9223372036854775807 := by
  have h1 := h.lo
  have h2 := h.hi
  have h3 := h.elo
  have h4 : e ≤ 40 := by
    by_cases h0 : m = 0
    · have := h.zero h0; omega
    · have := h.top h0; omega
  omega
theorem toldV_fits {p : Int × Int} {ok : Bool} (h : ok = true → RightN p.1 p.2) : FitsV (toldV p ok) := by
  unfold toldV
  split
  · rename_i h1; exact (h h1).fits
  · rw [badV_in (by omega)]; unfold FitsV; simp
set_option maxRecDepth 100000 in
set_option maxHeartbeats 4000000 in
theorem told_c (m e : Int) (ok : Bool) (w : World) : Calls Tryz.prog 245 #[.agg #[.int .i64 m, .int .i64 e], .bool ok] w fun x w' => x = .returned (.agg (toldV (m, e) ok).cs.toArray) ∧ Below w.heap.size w w' := by
  have HB := Lib.hid (((Below.refl _ w).alloc (Nat.le_refl _) (.cells #[.int .i64 m, .int .i64 e] 39)).alloc (by simp) (.cells #[.int .i64 0, .int .i64 0, .int .i64 0, .string ⟨#[]⟩, .bool false, .int .i64 0] 41))
  have BN := Lib.hid ((Blk.new w 39 #[.int .i64 m, .int .i64 e]).alloc (.cells #[.int .i64 0, .int .i64 0, .int .i64 0, .string ⟨#[]⟩, .bool false, .int .i64 0] 41))
  have BX := Lib.hid (show Blk ((w.alloc (.cells #[.int .i64 m, .int .i64 e] 39)).alloc (.cells #[.int .i64 0, .int .i64 0, .int .i64 0, .string ⟨#[]⟩, .bool false, .int .i64 0] 41)) (w.heap.size + 1) 41 #[.int .i64 0, .int .i64 0, .int .i64 0, .string ⟨#[]⟩, .bool false, .int .i64 0] by
    have := Blk.new (w.alloc (.cells #[.int .i64 m, .int .i64 e] 39)) 41 #[.int .i64 0, .int .i64 0, .int .i64 0, .string ⟨#[]⟩, .bool false, .int .i64 0]
    rwa [show (w.alloc (.cells #[.int .i64 m, .int .i64 e] 39)).heap.size = w.heap.size + 1 by simp] at this)
  have OF := Lib.hid (fun W => vof_c m e W)
  have BD := Lib.hid (fun W => vbadn_c 5 (by omega) W)
  cases ok
  · have e : toldV (m, e) false = ⟨4, 0, 0, ⟨#[]⟩, false, 5⟩ := badV_in (by omega)
    rw [e]
    clear e
    go_enter Tryz.func245, Tryz.ntmps245
    go_wp2_with fail
    generalize ((w.alloc (.cells #[.int .i64 m, .int .i64 e] 39)).alloc (.cells #[.int .i64 0, .int .i64 0, .int .i64 0, .string ⟨#[]⟩, .bool false, .int .i64 0] 41)) = V at *
    refine (BD.out _).mono ?_
    rintro x w1 ⟨rfl, B1⟩
    have BX1 := Lib.hid (BX.out.kept (B1.block _ BX.out.lt))
    have HB1 := Lib.hid (HB.out.trans (B1.mono HB.out.size))
    clear B1 BX HB BN
    have c0 := BX1.out.cell 0
    have c1 := BX1.out.cell 1
    have c2 := BX1.out.cell 2
    have c3 := BX1.out.cell 3
    have c4 := BX1.out.cell 4
    have c5 := BX1.out.cell 5
    simp only [List.getElem?_toArray, List.getElem?_cons_zero, List.getElem?_cons_succ] at c0 c1 c2 c3 c4 c5
    have f0 := BX1.out.frozen 0
    have f1 := BX1.out.frozen 1
    have f2 := BX1.out.frozen 2
    have f3 := BX1.out.frozen 3
    have f4 := BX1.out.frozen 4
    have f5 := BX1.out.frozen 5
    have lX := BX1.out.lt
    go_wp2_with fail
    change bodyPost _ _ _ _ _ (put6 w1 (w.heap.size + 1) (.int .i64 4) (.int .i64 0) (.int .i64 0) (.string ⟨#[]⟩) (.bool false) (.int .i64 5))
    have bX2 := Lib.hid (blk_put6 BX1.out (.int .i64 4) (.int .i64 0) (.int .i64 0) (.string ⟨#[]⟩) (.bool false) (.int .i64 5))
    have HO9 := Lib.hid (below_put6 HB1.out (Nat.le_succ _) (.int .i64 4) (.int .i64 0) (.int .i64 0) (.string ⟨#[]⟩) (.bool false) (.int .i64 5))
    generalize put6 w1 (w.heap.size + 1) (.int .i64 4) (.int .i64 0) (.int .i64 0) (.string ⟨#[]⟩) (.bool false) (.int .i64 5) = W2 at *
    have d0 := bX2.out.cell 0
    have d1 := bX2.out.cell 1
    have d2 := bX2.out.cell 2
    have d3 := bX2.out.cell 3
    have d4 := bX2.out.cell 4
    have d5 := bX2.out.cell 5
    simp only [List.getElem?_toArray, List.getElem?_cons_zero, List.getElem?_cons_succ] at d0 d1 d2 d3 d4 d5
    exact bodyPost_ret (v := .agg #[(.int .i64 4), (.int .i64 0), (.int .i64 0), (.string ⟨#[]⟩), (.bool false), (.int .i64 5)]) (by simp [results, Tryz.f245, go_sem, d0, d1, d2, d3, d4, d5]) rfl ⟨rfl, HO9.out⟩
  · have e : toldV (m, e) true = ⟨1, m, e, ⟨#[]⟩, false, 0⟩ := rfl
    rw [e]
    clear e
    go_enter Tryz.func245, Tryz.ntmps245
    go_wp2_with fail
    generalize ((w.alloc (.cells #[.int .i64 m, .int .i64 e] 39)).alloc (.cells #[.int .i64 0, .int .i64 0, .int .i64 0, .string ⟨#[]⟩, .bool false, .int .i64 0] 41)) = V at *
    have n0 := BN.out.cell 0
    have n1 := BN.out.cell 1
    simp only [List.getElem?_toArray, List.getElem?_cons_zero, List.getElem?_cons_succ] at n0 n1
    go_wp2_with fail
    refine (OF.out _).mono ?_
    rintro x w1 ⟨rfl, B1⟩
    have BX1 := Lib.hid (BX.out.kept (B1.block _ BX.out.lt))
    have HB1 := Lib.hid (HB.out.trans (B1.mono HB.out.size))
    clear B1 BX HB BN n0 n1
    have c0 := BX1.out.cell 0
    have c1 := BX1.out.cell 1
    have c2 := BX1.out.cell 2
    have c3 := BX1.out.cell 3
    have c4 := BX1.out.cell 4
    have c5 := BX1.out.cell 5
    simp only [List.getElem?_toArray, List.getElem?_cons_zero, List.getElem?_cons_succ] at c0 c1 c2 c3 c4 c5
    have f0 := BX1.out.frozen 0
    have f1 := BX1.out.frozen 1
    have f2 := BX1.out.frozen 2
    have f3 := BX1.out.frozen 3
    have f4 := BX1.out.frozen 4
    have f5 := BX1.out.frozen 5
    have lX := BX1.out.lt
    go_wp2_with fail
    change bodyPost _ _ _ _ _ (put6 w1 (w.heap.size + 1) (.int .i64 1) (.int .i64 m) (.int .i64 e) (.string ⟨#[]⟩) (.bool false) (.int .i64 0))
    have bX2 := Lib.hid (blk_put6 BX1.out (.int .i64 1) (.int .i64 m) (.int .i64 e) (.string ⟨#[]⟩) (.bool false) (.int .i64 0))
    have HO9 := Lib.hid (below_put6 HB1.out (Nat.le_succ _) (.int .i64 1) (.int .i64 m) (.int .i64 e) (.string ⟨#[]⟩) (.bool false) (.int .i64 0))
    generalize put6 w1 (w.heap.size + 1) (.int .i64 1) (.int .i64 m) (.int .i64 e) (.string ⟨#[]⟩) (.bool false) (.int .i64 0) = W2 at *
    have d0 := bX2.out.cell 0
    have d1 := bX2.out.cell 1
    have d2 := bX2.out.cell 2
    have d3 := bX2.out.cell 3
    have d4 := bX2.out.cell 4
    have d5 := bX2.out.cell 5
    simp only [List.getElem?_toArray, List.getElem?_cons_zero, List.getElem?_cons_succ] at d0 d1 d2 d3 d4 d5
    exact bodyPost_ret (v := .agg #[(.int .i64 1), (.int .i64 m), (.int .i64 e), (.string ⟨#[]⟩), (.bool false), (.int .i64 0)]) (by simp [results, Tryz.f245, go_sem, d0, d1, d2, d3, d4, d5]) rfl ⟨rfl, HO9.out⟩
end Go.Proofs.YtdmbppgogdkpdaaGreatDoor
namespace Go.Proofs.YtdmbppgogdkpdaaGreatDoor
open Go.RowKit
def csN (p : Int × Int) : List Value := [.int .i64 p.1, .int .i64 p.2]
noncomputable def addAll : List (Int × Int) → Int × Int → Option (Int × Int)
  | [], t => some t
  | p :: l, t => match addF t.1 t.2 p.1 p.2 with
    | none => none
    | some q => addAll l q
theorem addAll_right : ∀ (l : List (Int × Int)) (t q : Int × Int), RightN t.1 t.2 → addAll l t = some q → RightN q.1 q.2
  | [], t, q, h, e => by cases e; exact h
  | p :: l, t, q, h, e => by
    unfold addAll at e
    cases ha : addF t.1 t.2 p.1 p.2 with
    | none => rw [ha] at e; cases e
    | some u => rw [ha] at e; exact addAll_right l u q (addF_right ha) e
set_option maxRecDepth 100000 in
set_option maxHeartbeats 4000000 in
theorem fadd_c (A : Option Addr) (n ca : Nat) (l : List (Int × Int)) (w : World) (hA : ManyR csN 2 w A l) (hn : l.length = n) (hm : n ≤ 4096) (hr : ∀ p ∈ l, RightN p.1 p.2) (htab : PowT w) :
    Calls Tryz.prog 246 #[.slice A n ca] w fun x w' => x = .returned (optV (addAll l (0, 0))) ∧ Below w.heap.size w w' := by
  have HA := Lib.hid hA
  have HN := Lib.hid hn
  have HR := Lib.hid hr
  have HT := Lib.hid htab
  have HB := Lib.hid (((Below.refl _ w).alloc (Nat.le_refl _) (.cells #[.int .i64 0, .int .i64 0] 39)).alloc (by simp) (.cells #[.int .i64 0, .int .i64 0] 39))
  have BX := Lib.hid ((Blk.new w 39 #[.int .i64 0, .int .i64 0]).alloc (.cells #[.int .i64 0, .int .i64 0] 39))
  have BY := Lib.hid (show Blk ((w.alloc (.cells #[.int .i64 0, .int .i64 0] 39)).alloc (.cells #[.int .i64 0, .int .i64 0] 39)) (w.heap.size + 1) 39 #[.int .i64 0, .int .i64 0] by
    have := Blk.new (w.alloc (.cells #[.int .i64 0, .int .i64 0] 39)) 39 #[.int .i64 0, .int .i64 0]
    rwa [show (w.alloc (.cells #[.int .i64 0, .int .i64 0] 39)).heap.size = w.heap.size + 1 by simp] at this)
  clear hA hn hr htab
  go_enter Tryz.func246, Tryz.ntmps246
  go_wp2_with fail
  generalize ((w.alloc (.cells #[.int .i64 0, .int .i64 0] 39)).alloc (.cells #[.int .i64 0, .int .i64 0] 39)) = V at *
  go_loopw [12] (fun i wr => ∃ (j : Nat) (t1 t2 : Int), j ≤ n ∧ i = .int .i64 j ∧ Hid (RightN t1 t2) ∧ Hid (addAll l (0, 0) = addAll (l.drop j) (t1, t2)) ∧ Hid (Below w.heap.size w wr) ∧ Hid (Blk wr w.heap.size 39 #[.int .i64 0, .int .i64 0]) ∧ Hid (Blk wr (w.heap.size + 1) 39 #[.int .i64 t1, .int .i64 t2])) (fun i _ => n - (intOf i).toNat)
  case atStart => exact ⟨0, 0, 0, Nat.zero_le _, rfl, rightN_zero, Lib.hid rfl, HB, BX, BY⟩
  case round =>
    obtain ⟨j, t1, t2, hj, rfl, hR, hE, hB, hX, hY⟩ := hrel
    by_cases hlt : j < n
    · have hjl : j < l.length := by rw [HN.out]; exact hlt
      obtain ⟨bA, oA, rfl, lA, hcA⟩ := (HA.out.next hB.out) (fun e => by rw [e] at hjl; simp at hjl)
      have gv := hcA j hjl
      have hmem := Lib.hid (List.getElem_mem hjl)
      have hdr := Lib.hid (List.drop_eq_getElem_cons hjl)
      clear hcA
      generalize l[j] = z at *
      obtain ⟨m, e⟩ := z
      have HZ := Lib.hid (show RightN m e from HR.out _ hmem.out)
      have HE2 := Lib.hid (show addAll l (0, 0) = (match addF t1 t2 m e with | none => none | some q => addAll (l.drop (j + 1)) q) by rw [hE.out, hdr.out]; rfl)
      have c0 := gv 0 _ rfl
      have c1 := gv 1 _ rfl
      rw [Nat.add_zero] at c0
      clear gv hdr hE
      have HAD := Lib.hid (add_c t1 t2 m e hR.out HZ.out (wr.alloc (.cells #[.int .i64 m, .int .i64 e] 39)) (HT.out.next (hB.out.alloc hB.out.size (.cells #[.int .i64 m, .int .i64 e] 39))))
      have hj0 : (0 : Int) ≤ (j : Int) := by omega
      have hjn : (j : Int) < (n : Int) := by omega
      have wj : IntKind.i64.wrap ((j : Int) + 1) = (j : Int) + 1 := IntWalk.i64_in _ (by omega)
      have hX1 := Lib.hid (hX.out.alloc (.cells #[.int .i64 m, .int .i64 e] 39))
      have hY1 := Lib.hid (hY.out.alloc (.cells #[.int .i64 m, .int .i64 e] 39))
      have hB1 := Lib.hid (hB.out.alloc hB.out.size (.cells #[.int .i64 m, .int .i64 e] 39))
      have hZ1 := Lib.hid (Blk.new wr 39 #[.int .i64 m, .int .i64 e])
      have LE1 := Lib.hid (show w.heap.size + 1 < wr.heap.size from hY.out.lt)
      have y0 := hY1.out.cell 0
      have y1 := hY1.out.cell 1
      simp only [List.getElem?_toArray, List.getElem?_cons_zero, List.getElem?_cons_succ] at y0 y1
      have z0 := hZ1.out.cell 0
      have z1 := hZ1.out.cell 1
      simp only [List.getElem?_toArray, List.getElem?_cons_zero, List.getElem?_cons_succ] at z0 z1
      obtain ⟨b, p1, p2, he, hp, hbt, hbf⟩ := optV_parts (addF t1 t2 m e)
      rw [he] at HAD
      have HBT := Lib.hid hbt
      have HBF := Lib.hid hbf
      clear he hp hbt hbf hX hY hB
      go_wp2_with fail
      refine HAD.out.mono ?_
      rintro x w1 ⟨rfl, hbl⟩
      have hX2 := Lib.hid ((hX1.out.kept (hbl.block _ hX1.out.lt)).alloc (.cells #[.int .i64 p1, .int .i64 p2] 39))
      have hY2 := Lib.hid ((hY1.out.kept (hbl.block _ hY1.out.lt)).alloc (.cells #[.int .i64 p1, .int .i64 p2] 39))
      have hB2 := Lib.hid ((hB1.out.trans (hbl.mono hB1.out.size)).alloc (Nat.le_trans hB1.out.size hbl.size) (.cells #[.int .i64 p1, .int .i64 p2] 39))
      have hZ2 := Lib.hid (Blk.new w1 39 #[.int .i64 p1, .int .i64 p2])
      have LE2 := Lib.hid (show w.heap.size + 1 < w1.heap.size from Nat.lt_of_lt_of_le hY1.out.lt hbl.size)
      clear hbl HAD hX1 hY1 hB1 hZ1 y0 y1 z0 z1 c0 c1
      cases b
      · have HN2 := Lib.hid (show addAll l (0, 0) = none by rw [HE2.out, HBF.out rfl])
        have k0 := hX2.out.cell 0
        have k1 := hX2.out.cell 1
        have f0 := hX2.out.frozen 0
        have f1 := hX2.out.frozen 1
        simp only [List.getElem?_toArray, List.getElem?_cons_zero, List.getElem?_cons_succ] at k0 k1
        go_wp2_with fail
        change bodyPost _ _ _ _ _ (put2 (w1.alloc (.cells #[.int .i64 p1, .int .i64 p2] 39)) w.heap.size (.int .i64 0) (.int .i64 0))
        have bX2 := blk_put2 hX2.out (.int .i64 0) (.int .i64 0)
        have HO9 := Lib.hid (Below.put2 hB2.out (Nat.le_refl _) (.int .i64 0) (.int .i64 0))
        generalize put2 (w1.alloc (.cells #[.int .i64 p1, .int .i64 p2] 39)) w.heap.size (.int .i64 0) (.int .i64 0) = W2 at *
        have d0 := bX2.cell 0
        have d1 := bX2.cell 1
        simp only [List.getElem?_toArray, List.getElem?_cons_zero, List.getElem?_cons_succ] at d0 d1
        exact bodyPost_ret (v := .tuple #[.agg #[.int .i64 0, .int .i64 0], .bool false]) (by simp [results, Tryz.f246, go_sem, d0, d1]) rfl ⟨(by rw [HN2.out]; rfl), HO9.out⟩
      · have HN2 := Lib.hid (show addAll l (0, 0) = addAll (l.drop (j + 1)) (p1, p2) by rw [HE2.out, HBT.out rfl])
        have HR2 := Lib.hid (show RightN p1 p2 from addF_right (HBT.out rfl))
        have k0 := hY2.out.cell 0
        have k1 := hY2.out.cell 1
        have f0 := hY2.out.frozen 0
        have f1 := hY2.out.frozen 1
        simp only [List.getElem?_toArray, List.getElem?_cons_zero, List.getElem?_cons_succ] at k0 k1
        have z0 := hZ2.out.cell 0
        have z1 := hZ2.out.cell 1
        simp only [List.getElem?_toArray, List.getElem?_cons_zero, List.getElem?_cons_succ] at z0 z1
        go_wp2_with fail
        go_roundw
        case rel => exact ⟨j + 1, p1, p2, by omega, by go_num, HR2, HN2, Lib.hid (Below.put2 hB2.out (X := w.heap.size + 1) (Nat.le_succ _) _ _), Lib.hid ((hX2.out.far (show w.heap.size ≠ w.heap.size + 1 by omega) _).far (show w.heap.size ≠ w.heap.size + 1 by omega) _), Lib.hid (blk_put2 hY2.out _ _)⟩
        case measure => simp [intOf]; omega
    · obtain rfl : j = n := by omega
      have hjj : decide ((j : Int) < (j : Int)) = false := decide_eq_false (by omega)
      have HN2 := Lib.hid (show addAll l (0, 0) = some (t1, t2) by rw [hE.out, List.drop_of_length_le (by rw [HN.out]; exact Nat.le_refl _)]; rfl)
      have y0 := hY.out.cell 0
      have y1 := hY.out.cell 1
      simp only [List.getElem?_toArray, List.getElem?_cons_zero, List.getElem?_cons_succ] at y0 y1
      have k0 := hX.out.cell 0
      have k1 := hX.out.cell 1
      have f0 := hX.out.frozen 0
      have f1 := hX.out.frozen 1
      simp only [List.getElem?_toArray, List.getElem?_cons_zero, List.getElem?_cons_succ] at k0 k1
      go_wp2_with fail
      change bodyPost _ _ _ _ _ (put2 wr w.heap.size (.int .i64 t1) (.int .i64 t2))
      have bX2 := blk_put2 hX.out (.int .i64 t1) (.int .i64 t2)
      have HO9 := Lib.hid (Below.put2 hB.out (Nat.le_refl _) (.int .i64 t1) (.int .i64 t2))
      generalize put2 wr w.heap.size (.int .i64 t1) (.int .i64 t2) = W2 at *
      have d0 := bX2.cell 0
      have d1 := bX2.cell 1
      simp only [List.getElem?_toArray, List.getElem?_cons_zero, List.getElem?_cons_succ] at d0 d1
      exact bodyPost_ret (v := .tuple #[.agg #[.int .i64 t1, .int .i64 t2], .bool true]) (by simp [results, Tryz.f246, go_sem, d0, d1]) rfl ⟨(by rw [HN2.out]; rfl), HO9.out⟩
end Go.Proofs.YtdmbppgogdkpdaaGreatDoor
namespace Go.Proofs.YtdmbppgogdkpdaaGreatDoor
open Go.RowKit
noncomputable def sumV (l : List (Int × Int)) : Val := match addAll l (0, 0) with
  | none => badV 5
  | some p => okV p
theorem sumV_right (l : List (Int × Int)) : RightV (sumV l) := by
  unfold sumV
  split
  · exact rightV_bad 5
  · rename_i p h; exact toldV_right (p := p) (ok := true) (fun _ => addAll_right l (0, 0) p rightN_zero h)
theorem sumV_fits (l : List (Int × Int)) : FitsV (sumV l) := by
  unfold sumV
  split
  · rw [badV_in (by omega)]; unfold FitsV; simp
  · rename_i p h; exact (addAll_right l (0, 0) p rightN_zero h).fits
theorem sumV_optV (l : List (Int × Int)) : ∃ (b : Bool) (p1 p2 : Int), optV (addAll l (0, 0)) = .tuple #[.agg #[.int .i64 p1, .int .i64 p2], .bool b] ∧ sumV l = toldV (p1, p2) b := by
  unfold sumV
  cases addAll l (0, 0) with
  | none => exact ⟨false, 0, 0, rfl, rfl⟩
  | some p => exact ⟨true, p.1, p.2, rfl, rfl⟩
set_option maxRecDepth 100000 in
set_option maxHeartbeats 4000000 in
theorem fsum_c (A : Option Addr) (n ca : Nat) (l : List (Int × Int)) (w : World) (hA : ManyR csN 2 w A l) (hn : l.length = n) (hm : n ≤ 4096) (hr : ∀ p ∈ l, RightN p.1 p.2) (htab : PowT w) :
    Calls Tryz.prog 141 #[.slice A n ca] w fun x w' => x = .returned (.agg (sumV l).cs.toArray) ∧ Below w.heap.size w w' := by
  have HB := Lib.hid ((Below.refl _ w).alloc (Nat.le_refl _) (.cells #[.int .i64 0, .int .i64 0, .int .i64 0, .string ⟨#[]⟩, .bool false, .int .i64 0] 41))
  have BX := Lib.hid (Blk.new w 41 #[.int .i64 0, .int .i64 0, .int .i64 0, .string ⟨#[]⟩, .bool false, .int .i64 0])
  have HS := fadd_c A n ca l (w.alloc (.cells #[.int .i64 0, .int .i64 0, .int .i64 0, .string ⟨#[]⟩, .bool false, .int .i64 0] 41)) (hA.next HB.out) hn hm hr (htab.next HB.out)
  obtain ⟨b, p1, p2, he, hp⟩ := sumV_optV l
  rw [he] at HS
  have HSS := Lib.hid HS
  have HT0 := fun W => told_c p1 p2 b W
  rw [hp]
  clear hA hn hr htab HS he hp
  generalize toldV (p1, p2) b = z at HT0 ⊢
  obtain ⟨zk, zm, ze, zt, zb, zf⟩ := z
  have HT := Lib.hid (fun W => show Calls Tryz.prog 245 #[.agg #[.int .i64 p1, .int .i64 p2], .bool b] W (fun x w' => x = .returned (.agg #[.int .i64 zk, .int .i64 zm, .int .i64 ze, .string zt, .bool zb, .int .i64 zf]) ∧ Below W.heap.size W w') from HT0 W)
  clear HT0
  go_enter Tryz.func141, Tryz.ntmps141
  go_wp2_with fail
  refine HSS.out.mono ?_
  rintro x w1 ⟨rfl, B1⟩
  have BX1 := Lib.hid (BX.out.kept (B1.block _ BX.out.lt))
  have HB1 := Lib.hid (HB.out.trans (B1.mono HB.out.size))
  clear B1 BX HB
  go_wp2_with fail
  refine (HT.out _).mono ?_
  rintro x w2 ⟨rfl, B1⟩
  have BX2 := Lib.hid (BX1.out.kept (B1.block _ BX1.out.lt))
  have HB2 := Lib.hid (HB1.out.trans (B1.mono HB1.out.size))
  clear B1 BX1 HB1
  have c0 := BX2.out.cell 0
  have c1 := BX2.out.cell 1
  have c2 := BX2.out.cell 2
  have c3 := BX2.out.cell 3
  have c4 := BX2.out.cell 4
  have c5 := BX2.out.cell 5
  simp only [List.getElem?_toArray, List.getElem?_cons_zero, List.getElem?_cons_succ] at c0 c1 c2 c3 c4 c5
  have f0 := BX2.out.frozen 0
  have f1 := BX2.out.frozen 1
  have f2 := BX2.out.frozen 2
  have f3 := BX2.out.frozen 3
  have f4 := BX2.out.frozen 4
  have f5 := BX2.out.frozen 5
  have lX := BX2.out.lt
  go_wp2_with fail
  change bodyPost _ _ _ _ _ (put6 w2 w.heap.size (.int .i64 zk) (.int .i64 zm) (.int .i64 ze) (.string zt) (.bool zb) (.int .i64 zf))
  have bX2 := Lib.hid (blk_put6 BX2.out (.int .i64 zk) (.int .i64 zm) (.int .i64 ze) (.string zt) (.bool zb) (.int .i64 zf))
  have HO9 := Lib.hid (below_put6 HB2.out (Nat.le_refl _) (.int .i64 zk) (.int .i64 zm) (.int .i64 ze) (.string zt) (.bool zb) (.int .i64 zf))
  generalize put6 w2 w.heap.size (.int .i64 zk) (.int .i64 zm) (.int .i64 ze) (.string zt) (.bool zb) (.int .i64 zf) = W2 at *
  have d0 := bX2.out.cell 0
  have d1 := bX2.out.cell 1
  have d2 := bX2.out.cell 2
  have d3 := bX2.out.cell 3
  have d4 := bX2.out.cell 4
  have d5 := bX2.out.cell 5
  simp only [List.getElem?_toArray, List.getElem?_cons_zero, List.getElem?_cons_succ] at d0 d1 d2 d3 d4 d5
  exact bodyPost_ret (v := .agg #[(.int .i64 zk), (.int .i64 zm), (.int .i64 ze), (.string zt), (.bool zb), (.int .i64 zf)]) (by simp [results, Tryz.f141, go_sem, d0, d1, d2, d3, d4, d5]) rfl ⟨rfl, HO9.out⟩
noncomputable def countV (n : Nat) : Val := okV (wholeF n)
theorem countV_right (n : Nat) : RightV (countV n) := toldV_right (p := wholeF n) (ok := true) (fun _ => wholeF_right n)
theorem countV_fits (n : Nat) : FitsV (countV n) := (wholeF_right n).fits
set_option maxRecDepth 100000 in
set_option maxHeartbeats 4000000 in
theorem acount_c (n : Nat) (hn : n < 9223372036854775808) (w : World) (htab : PowT w) : Calls Tryz.prog 203 #[.int .i64 n] w fun x w' => x = .returned (.agg (countV n).cs.toArray) ∧ Below w.heap.size w w' := by
  have HB := Lib.hid ((Below.refl _ w).alloc (Nat.le_refl _) (.cells #[.int .i64 0, .int .i64 0, .int .i64 0, .string ⟨#[]⟩, .bool false, .int .i64 0] 41))
  have BX := Lib.hid (Blk.new w 41 #[.int .i64 0, .int .i64 0, .int .i64 0, .string ⟨#[]⟩, .bool false, .int .i64 0])
  have HM := make_c n hn (w.alloc (.cells #[.int .i64 0, .int .i64 0, .int .i64 0, .string ⟨#[]⟩, .bool false, .int .i64 0] 41)) (htab.next HB.out)
  obtain ⟨b, p1, p2, he, hp, _, _⟩ := optV_parts (makeF n)
  rw [he] at HM
  have HMM := Lib.hid HM
  have HW := Lib.hid (show countV n = ⟨1, p1, p2, ⟨#[]⟩, false, 0⟩ by unfold countV wholeF; rw [hp]; rfl)
  have HO := Lib.hid (fun W => vof_c p1 p2 W)
  rw [HW.out]
  clear htab HM he hp
  go_enter Tryz.func203, Tryz.ntmps203
  go_wp2_with fail
  refine HMM.out.mono ?_
  rintro x w2 ⟨rfl, hbl⟩
  have BX2 := Lib.hid ((BX.out.kept (hbl.block _ BX.out.lt)).alloc (.cells #[.int .i64 p1, .int .i64 p2] 39))
  have HB2 := Lib.hid ((HB.out.trans (hbl.mono HB.out.size)).alloc (Nat.le_trans HB.out.size hbl.size) (.cells #[.int .i64 p1, .int .i64 p2] 39))
  clear hbl HB BX
  go_wp2_with fail
  refine (HO.out _).mono ?_
  rintro x w3 ⟨rfl, B1⟩
  have BX3 := Lib.hid (BX2.out.kept (B1.block _ BX2.out.lt))
  have HB3 := Lib.hid (HB2.out.trans (B1.mono HB2.out.size))
  clear B1 BX2 HB2
  have c0 := BX3.out.cell 0
  have c1 := BX3.out.cell 1
  have c2 := BX3.out.cell 2
  have c3 := BX3.out.cell 3
  have c4 := BX3.out.cell 4
  have c5 := BX3.out.cell 5
  simp only [List.getElem?_toArray, List.getElem?_cons_zero, List.getElem?_cons_succ] at c0 c1 c2 c3 c4 c5
  have f0 := BX3.out.frozen 0
  have f1 := BX3.out.frozen 1
  have f2 := BX3.out.frozen 2
  have f3 := BX3.out.frozen 3
  have f4 := BX3.out.frozen 4
  have f5 := BX3.out.frozen 5
  have lX := BX3.out.lt
  go_wp2_with fail
  change bodyPost _ _ _ _ _ (put6 w3 w.heap.size (.int .i64 1) (.int .i64 p1) (.int .i64 p2) (.string ⟨#[]⟩) (.bool false) (.int .i64 0))
  have bX2 := Lib.hid (blk_put6 BX3.out (.int .i64 1) (.int .i64 p1) (.int .i64 p2) (.string ⟨#[]⟩) (.bool false) (.int .i64 0))
  have HO9 := Lib.hid (below_put6 HB3.out (Nat.le_refl _) (.int .i64 1) (.int .i64 p1) (.int .i64 p2) (.string ⟨#[]⟩) (.bool false) (.int .i64 0))
  generalize put6 w3 w.heap.size (.int .i64 1) (.int .i64 p1) (.int .i64 p2) (.string ⟨#[]⟩) (.bool false) (.int .i64 0) = W2 at *
  have d0 := bX2.out.cell 0
  have d1 := bX2.out.cell 1
  have d2 := bX2.out.cell 2
  have d3 := bX2.out.cell 3
  have d4 := bX2.out.cell 4
  have d5 := bX2.out.cell 5
  simp only [List.getElem?_toArray, List.getElem?_cons_zero, List.getElem?_cons_succ] at d0 d1 d2 d3 d4 d5
  exact bodyPost_ret (v := .agg #[(.int .i64 1), (.int .i64 p1), (.int .i64 p2), (.string ⟨#[]⟩), (.bool false), (.int .i64 0)]) (by simp [results, Tryz.f203, go_sem, d0, d1, d2, d3, d4, d5]) rfl ⟨rfl, HO9.out⟩
end Go.Proofs.YtdmbppgogdkpdaaGreatDoor
namespace Go.Proofs.YtdmbppgogdkpdaaGreatDoor
open Go.RowKit
theorem add_at (g o j : Nat) : (⟨g, o, none⟩ : Addr).add j = ⟨g, o + j, none⟩ := by unfold Addr.add; split <;> simp_all
theorem flat_get {α : Type} {f : α → List Value} {k : Nat} (hf : ∀ z, (f z).length = k) : ∀ (l : List α) (i : Nat) (h : i < l.length) (j : Nat) (v : Value), (f l[i])[j]? = some v → (l.flatMap f)[i * k + j]? = some v
  | [], i, h, _, _, _ => by simp at h
  | z :: l, 0, _, j, v, hv => by
    have hj : j < (f z).length := (List.getElem?_eq_some_iff.1 hv).1
    rw [List.flatMap_cons, Nat.zero_mul, Nat.zero_add, List.getElem?_append_left hj]
    exact hv
  | z :: l, i + 1, h, j, v, hv => by
    have ih := flat_get hf l i (by simpa using h) j v hv
    rw [List.flatMap_cons, List.getElem?_append_right (by rw [hf, Nat.succ_mul]; omega), hf, show (i + 1) * k + j - k = i * k + j by rw [Nat.succ_mul]; omega]
    exact ih
theorem flat_len {α : Type} {f : α → List Value} {k : Nat} (hf : ∀ z, (f z).length = k) : ∀ (l : List α), (l.flatMap f).length = l.length * k
  | [] => by simp
  | z :: l => by rw [List.flatMap_cons, List.length_append, hf, flat_len hf l, List.length_cons, Nat.succ_mul]; omega
theorem manyR_of_row {α : Type} {f : α → List Value} {k : Nat} (hf : ∀ z, (f z).length = k) (hk : 0 < k) {w : World} {base : Nat} {e : TypeId} {A : Option Addr} {n c : Nat} {l : List α} (h : w.ownsRow base e k (.slice A n c) n (l.flatMap f)) :
    l.length = n ∧ ManyR f k w A l := by
  have hn : l.length = n := by
    have := h.1
    rw [flat_len hf] at this
    exact Nat.eq_of_mul_eq_mul_right hk this
  refine ⟨hn, fun hl => ?_⟩
  rcases h.2 with ⟨hv, h0⟩ | ⟨g, cap, cur, hv, _, hg, _⟩
  · exact absurd (List.length_eq_zero_iff.1 (hn.trans h0)) hl
  · cases hv
    refine ⟨g, 0, rfl, (Array.getElem?_eq_some_iff.1 hg).1, fun i hi j v hv => ?_⟩
    have c1 := h.cells (g := g) rfl _ _ (flat_get hf l i hi j v hv)
    rw [add_at] at c1
    rw [Nat.add_assoc]
    exact c1
theorem val_one (l : List Val) : ∀ u ∈ l.flatMap Val.cs, u.oneCell' = true := by
  intro u hu
  obtain ⟨z, _, hz⟩ := List.mem_flatMap.1 hu
  simp only [Val.cs, List.mem_cons, List.not_mem_nil, or_false] at hz
  rcases hz with rfl | rfl | rfl | rfl | rfl | rfl <;> rfl
theorem Tryz.infoV : (Tryz.prog.info? 41).map (fun i => (i.zero, i.size, i.bytes)) = some (some (.agg #[.int .i64 0, .int .i64 0, .int .i64 0, .string ⟨#[]⟩, .bool false, .int .i64 0]), 6, 56) := by kernel_rfl
def ListP (w : World) (l : List Val) (e : Ending) (w' : World) : Prop := ∃ A c, e = .returned (.slice A l.length c) ∧ ManyR Val.cs 6 w' A l ∧ Below w.heap.size w w'
set_option maxRecDepth 100000 in
set_option maxHeartbeats 4000000 in
theorem all_c (bG : Nat) (r c : Int) (A : Option Addr) (n ca cG : Nat) (l : List Val) (w : World) (hG : Blk w bG 28 #[.int .i64 r, .int .i64 c, .slice A n ca]) (hA : ManyR Val.cs 6 w A l) (hn : l.length = n) (hm : n ≤ 4096) (hl : l ≠ []) :
    Calls Tryz.prog 244 #[.slice (some ⟨bG, 0, none⟩) 1 cG] w (ListP w l) := by
  obtain ⟨i0, hi, hz0, hz1, hz2⟩ := info_parts Tryz.infoV
  obtain ⟨bA, oA, rfl, lA, hcA⟩ := hA hl
  have HG := Lib.hid hG
  have HN := Lib.hid hn
  have HC := Lib.hid (show ∀ j u, (l.flatMap Val.cs)[j]? = some u → w.cell? ⟨bA, oA + j, none⟩ = some u from fun j u hj => by
    have hjl : j < (l.flatMap Val.cs).length := (List.getElem?_eq_some_iff.1 hj).1
    rw [flat_len (k := 6) (fun _ => rfl)] at hjl
    have h6 : j / 6 < l.length := by omega
    have e6 : j / 6 * 6 + j % 6 = j := by omega
    have hz : (Val.cs l[j / 6])[j % 6]? = some u := by
      cases hq : (Val.cs l[j / 6])[j % 6]? with
      | none => exact absurd (List.getElem?_eq_none_iff.1 hq) (by simp [Val.cs]; omega)
      | some q =>
        have := flat_get (f := Val.cs) (k := 6) (fun _ => rfl) l (j / 6) h6 (j % 6) q hq
        rw [e6, hj] at this
        exact this.symm
    have := hcA (j / 6) h6 (j % 6) u hz
    rwa [show oA + j / 6 * 6 + j % 6 = oA + j by omega] at this)
  have LA := Lib.hid lA
  clear hG hA hn hcA lA
  go_enter Tryz.func244, Tryz.ntmps244
  go_wp2_with fail
  go_loopw [3, 8] (fun v i wr => (i = .int .i64 0 ∧ v = .slice none 0 0 ∧ Hid (wr = w)) ∨ (i = .int .i64 1 ∧ ∃ A' c', v = .slice A' n c' ∧ Hid (wr.ownsRow w.heap.size 41 6 (.slice A' n c') n (l.flatMap Val.cs)) ∧ Hid (Below w.heap.size w wr))) (fun _ i _ => 1 - (intOf i).toNat)
  case atStart => exact .inl ⟨rfl, rfl, Lib.hid rfl⟩
  case round =>
    rcases hrel with ⟨rfl, rfl, hw⟩ | ⟨rfl, A', c', rfl, hrow, hb⟩
    · obtain rfl := hw.out
      have g0 := HG.out.cell 0
      have g1 := HG.out.cell 1
      have g2 := HG.out.cell 2
      simp only [List.getElem?_toArray, List.getElem?_cons_zero, List.getElem?_cons_succ] at g0 g1 g2
      have HB := Lib.hid ((Below.refl _ wr).alloc (Nat.le_refl _) (.cells #[.int .i64 r, .int .i64 c, .slice (some ⟨bA, oA, none⟩) n ca] 28))
      have HSrc : Hid (∀ ad, some (⟨bA, oA, none⟩ : Addr) = some ad → ∀ j u, (l.flatMap Val.cs)[j]? = some u → (wr.alloc (.cells #[.int .i64 r, .int .i64 c, .slice (some ⟨bA, oA, none⟩) n ca] 28)).cell? (ad.add j) = some u) := fun ad hE j u hj => by
        cases hE
        rw [add_at]
        have hlt : (⟨bA, oA + j, none⟩ : Addr).block < wr.heap.size := LA.out
        rw [World.cell?_alloc_lt _ _ _ hlt]
        exact HC.out j u hj
      clear hw
      go_wp2_with (at_builtin; refine wpList_append_src _ rfl _ _ _ rfl wr.heap.size 41 i0 _ 6 56 Tryz.underlying26 hi hz0 hz1 hz2 rfl (by omega) _ 0 [] rfl (World.ownsRow_nil _ _ _ _) (some ⟨bA, oA, none⟩) n ca (l.flatMap Val.cs) rfl (fun e => by cases e) (by rw [flat_len (k := 6) (fun _ => rfl), HN.out]) HSrc.out (val_one l) (by simp only [maxLen]; omega) (by omega) (by simp) ?_; intro v2 w3 hr6 hg6 hat6)
      have HR := Lib.hid (show w3.ownsRow wr.heap.size 41 6 v2 n (l.flatMap Val.cs) by simpa using hr6)
      have HB3 := Lib.hid (below_grew HB.out hg6 (fun g hg => by cases hg))
      clear hr6 hg6 hat6 g0 g1 g2
      obtain ⟨A2, c2, rfl, hAc⟩ := ownsRow_shape HR.out
      clear hAc
      go_wp2_with fail
      go_roundw
      case rel => exact .inr ⟨rfl, _, _, rfl, HR, HB3⟩
      case measure => simp [intOf]
    · go_wp2_with fail
      go_ret
      have HF := manyR_of_row (f := Val.cs) (k := 6) (fun _ => rfl) (by omega) hrow.out
      exact ⟨A', c', by rw [HN.out]; rfl, HF.2, hb.out⟩
end Go.Proofs.YtdmbppgogdkpdaaGreatDoor
