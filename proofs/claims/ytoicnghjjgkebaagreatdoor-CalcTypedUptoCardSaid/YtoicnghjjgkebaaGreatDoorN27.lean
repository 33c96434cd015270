/-
  (*rounds).pass at no formula: its contract. Condition: the rounds and the result lie in memory.
  calc.run, calc.All of a sheet without formulas, from what 'begin' tells. Condition: 'begin' tells rounds of no formula.
  calc.begin, its first region: the axes' lengths, the result. Condition: the sheet lies in memory, all of its axes live.
-/
import Derived.Test.YtoicnghjjgkebaaGreatDoorN24
set_option linter.unusedSectionVars false
set_option linter.unusedSimpArgs false
set_option linter.unusedVariables false
set_option linter.unnecessarySimpa false
namespace Go.Proofs.YtoicnghjjgkebaaGreatDoor
open Go.RowKit Go.Shelf
/-- The cells of a result of no formula. -/
def resC (R C : Int) (Mv Mn : Nat) (v6 v7 v8 v9 : Value) (n : Int) : Array Value := #[.int .i64 R, .int .i64 C, .map (some Mv), .map (some Mn), .slice none 0 0, .slice none 0 0, v6, v7, v8, v9, .int .i64 n]
def rdC (S Rs Mr Mc Mx : Nat) (tell : Value) : Array Value := #[.pointer (some ⟨S, 0, none⟩), .pointer (some ⟨Rs, 0, none⟩), .slice none 0 0, .map (some Mr), .map (some Mc), .map (some Mx), tell]
@[go_sem ↓] theorem Tryz.makeS_arr (w : World) : (Instr.makeSlice 99 (.int .i64 0) (.int .i64 0)).run Tryz.prog w = .ok (.slice (some ⟨w.heap.size, 0, none⟩) 0 0) (w.alloc (.cells #[] 58)) := by kernel_rfl
theorem blk_ne {w : World} {a b : Nat} {t t' : TypeId} {cs cs' : Array Value} (h : Blk w a t cs) (k : Blk w b t' cs') (ht : t ≠ t') : a ≠ b := fun e => by
  subst e
  unfold Blk at h k
  rw [h] at k
  cases k
  exact ht rfl
/-- The frame at the region. -/
def paF (Rd Rs q : Nat) (A : Option Addr) (c : Nat) (v32 v33 v34 v35 v36 v37 v38 v39 v40 v41 v42 v43 : Value) : Act := { tmps := #[.pointer (some ⟨Rd, 0, none⟩), undef, .slice none 0 0, .pointer (some ⟨Rs, 0, none⟩), .slice A 0 c, undef, undef, undef, undef, undef, undef, undef, undef, undef, .pointer (some ⟨Rd, 0, none⟩), .pointer (some ⟨Rd, 0, none⟩), .pointer (some ⟨Rd, 1, none⟩), .pointer (some ⟨Rs, 0, none⟩), .pointer (some ⟨Rd, 0, none⟩), .slice A 0 c, .pointer (some ⟨Rs, 0, none⟩), .pointer (some ⟨Rs, 0, none⟩), .pointer (some ⟨Rs, 10, none⟩), .int .i64 0, .int .i64 1, .pointer (some ⟨Rs, 0, none⟩), .pointer (some ⟨Rs, 10, none⟩), .pointer (some ⟨Rs, 0, none⟩), .slice A 0 c, .pointer (some ⟨q, 0, none⟩), .pointer (some ⟨Rs, 0, none⟩), .pointer (some ⟨Rs, 8, none⟩), v32, v33, v34, v35, v36, v37, v38, v39, v40, v41, v42, v43, undef, undef, undef, undef, undef, undef, undef, undef, undef, undef, undef, undef, undef, undef, undef, undef, undef, undef, undef, undef, undef, undef, undef, undef, undef, undef, undef, undef, undef, undef, undef, undef, undef, undef, undef, undef, undef, undef, undef, undef, undef, undef, undef, undef, undef, undef, undef, undef, undef, undef, undef, undef, undef, undef, undef, undef, undef, undef, undef, undef, undef, undef, undef, undef, undef, undef, undef, undef, undef, undef, undef, undef, undef, undef, undef, undef, undef, undef, undef, undef, undef, undef, undef, undef, undef, undef, undef, undef, undef], defers := [] }
structure PaW (w0 : World) (R C : Int) (Mv Mn Rs q : Nat) (v9 : Value) (W : World) : Prop where
  ch : Chg (fun k => k ≠ Rs) w0 W
  ex : ∃ v6 v7, Blk W Rs 104 (resC R C Mv Mn v6 v7 (.pointer (some ⟨q, 0, none⟩)) v9 1)
theorem PaW.below {w0 W W' : World} {R C : Int} {Mv Mn Rs q : Nat} {v9 : Value} (h : PaW w0 R C Mv Mn Rs q v9 W) (b : Below W.heap.size W W') : PaW w0 R C Mv Mn Rs q v9 W' := by
  obtain ⟨v6, v7, hb⟩ := h.ex
  exact ⟨h.ch.next b, v6, v7, hb.kept (b.block _ hb.lt)⟩
theorem PaW.set6 {w0 W : World} {R C : Int} {Mv Mn Rs q : Nat} {v9 : Value} (h : PaW w0 R C Mv Mn Rs q v9 W) (v : Value) : PaW w0 R C Mv Mn Rs q v9 (W.setCell ⟨Rs, 6, none⟩ v) := by
  obtain ⟨v6, v7, hb⟩ := h.ex
  exact ⟨h.ch.set (fun _ e => e rfl) v, v, v7, hb.store 6 v⟩
theorem PaW.set7 {w0 W : World} {R C : Int} {Mv Mn Rs q : Nat} {v9 : Value} (h : PaW w0 R C Mv Mn Rs q v9 W) (v : Value) : PaW w0 R C Mv Mn Rs q v9 (W.setCell ⟨Rs, 7, none⟩ v) := by
  obtain ⟨v6, v7, hb⟩ := h.ex
  exact ⟨h.ch.set (fun _ e => e rfl) v, v6, v, hb.store 7 v⟩
def paI (w0 : World) (R C : Int) (Mv Mn Rd Rs q : Nat) (A : Option Addr) (c : Nat) (v9 : Value) (a : Act) (W : World) : Prop := ∃ v32 v33 v34 v35 v36 v37 v38 v39 v40 v41 v42 v43, a = paF Rd Rs q A c v32 v33 v34 v35 v36 v37 v38 v39 v40 v41 v42 v43 ∧ PaW w0 R C Mv Mn Rs q v9 W
def paP (Rs : Nat) (A : Option Addr) (c : Nat) (i : Nat) (a : Act) (W : World) : Prop := match i with
  | 0 => a.tmps.getD 32 undef = .pointer (some ⟨Rs, 0, none⟩)
  | 1 => a.tmps.getD 33 undef = .pointer (some ⟨Rs, 0, none⟩)
  | 2 => a.tmps.getD 34 undef = .slice A 0 c
  | 3 => a.tmps.getD 35 undef = .int .i64 0
  | 4 => ∃ A c, a.tmps.getD 36 undef = .slice A 0 c
  | 5 => a.tmps.getD 37 undef = .slice A 0 c
  | 6 => a.tmps.getD 38 undef = .int .i64 0
  | 7 => ∃ A c, a.tmps.getD 39 undef = .slice A 0 c
  | 8 => a.tmps.getD 40 undef = .pointer (some ⟨Rs, 0, none⟩)
  | 9 => a.tmps.getD 41 undef = .pointer (some ⟨Rs, 7, none⟩)
  | 11 => a.tmps.getD 42 undef = .pointer (some ⟨Rs, 0, none⟩)
  | 12 => a.tmps.getD 43 undef = .pointer (some ⟨Rs, 6, none⟩)
  | 13 => ∃ A c, W.cell? ⟨Rs, 6, none⟩ = some (.slice A 0 c)
  | _ => True
theorem paP_below {Rs : Nat} {A : Option Addr} {c i : Nat} {a : Act} {W W' : World} (h : paP Rs A c i a W) (b : Below W.heap.size W W') : paP Rs A c i a W' := by
  unfold paP at h ⊢
  split at h <;> first | exact h | (obtain ⟨A, c, h⟩ := h; exact ⟨A, c, (b.cell (p := ⟨Rs, 6, none⟩) (World.block_lt_of_cell? W _ h)).trans h⟩)
theorem paP_set7 {Rs : Nat} {A : Option Addr} {c i : Nat} {a : Act} {W : World} (h : paP Rs A c i a W) (v : Value) : paP Rs A c i a (W.setCell ⟨Rs, 7, none⟩ v) := by
  unfold paP at h ⊢
  split at h <;> first | exact h | (obtain ⟨A, c, h⟩ := h; exact ⟨A, c, (World.cell?_setCell_other W _ _ _ (by simp)).trans h⟩)
def PassP (w : World) (R C : Int) (Mv Mn Rs : Nat) (v9 : Value) (e : Ending) (w' : World) : Prop := (∃ A c, e = .returned (.slice A 0 c)) ∧ (∃ A6 c6 v7 v8, Blk w' Rs 104 (resC R C Mv Mn (.slice A6 0 c6) v7 v8 v9 1)) ∧ Chg (fun k => k ≠ Rs) w w'
set_option maxRecDepth 100000 in
set_option maxHeartbeats 4000000 in
theorem pass_c (Rd Rs S Mr Mc Mx Mv Mn : Nat) (R C : Int) (tell v6 v7 v8 v9 : Value) (w : World) (hd : Blk w Rd 130 (rdC S Rs Mr Mc Mx tell)) (hr : Blk w Rs 104 (resC R C Mv Mn v6 v7 v8 v9 0)) :
    Calls Tryz.prog 39 #[.pointer (some ⟨Rd, 0, none⟩)] w (PassP w R C Mv Mn Rs v9) := by
  have C0 : AllCells w.drew [(⟨Rd, 1, none⟩, .pointer (some ⟨Rs, 0, none⟩))] := ⟨hd.cell 1, trivial⟩
  have HE := Lib.hid (edges_c Rd w.drew (hd.cell 2))
  have HR := Lib.hid hr
  clear hd hr
  go_enter Tryz.func39, Tryz.ntmps39
  go_upto_region 1 with fail
  refine rfree [0, 1, 2, 3, 4] 3 (by kernel_rfl) (fun _ _ _ _ _ h => h) C0 ?_
  intro hne hu; try simp only [AllCells] at hu
  simp only [pick, pk]
  repeat (go_big_quiet_step (fail))
  refine wpQuiet_nil ?_; clear hne hu
  refine anyN_oneL 5 (by kernel_rfl) ?_; simp only [pk]
  go_wp2_with fail
  refine HE.out.mono ?_
  rintro _ w1 ⟨⟨A, c, rfl⟩, b1⟩
  have C1 := AllCells.below C0 b1
  have HB1 := Lib.hid (show Below w.heap.size w w1 from (Below.refl w.heap.size w).drew.trans b1)
  have HR1 := Lib.hid (HR.out.kept (HB1.out.block _ HR.out.lt))
  clear HE b1 HR
  go_wp2_with fail
  first | refine And.intro (fun _ => C1) ?_ | refine And.intro C1 ?_ | skip
  refine rmore [6, 7] 0 (by kernel_rfl) (fun _ _ _ _ _ h => h) C1 ?_
  intro hne hu; try simp only [AllCells] at hu
  simp only [pick, pk]
  repeat (go_big_quiet_step (fail))
  refine wpQuiet_nil ?_; clear hne hu
  refine ⟨by kernel_rfl, ?_⟩
  have c10 := HR1.out.cell 10
  have f10 := HR1.out.frozen 10
  have HR2 := Lib.hid (show Blk (w1.setCell ⟨Rs, 10, none⟩ (.int .i64 1)) Rs 104 (resC R C Mv Mn v6 v7 v8 v9 1) from HR1.out.store 10 _)
  have HC2 := Lib.hid (show Chg (fun k => k ≠ Rs) w (w1.setCell ⟨Rs, 10, none⟩ (.int .i64 1)) from (Chg.of HB1.out).set (fun _ e => e rfl) _)
  simp only [resC, List.getElem?_toArray, List.getElem?_cons_zero, List.getElem?_cons_succ] at c10
  clear C0 C1 HR1 HB1
  go_wp2_with fail
  generalize w1.setCell ⟨Rs, 10, none⟩ (.int .i64 1) = w2 at *
  clear c10 f10
  refine (graphof_c A c w2).mono ?_
  rintro _ w3 ⟨⟨q, A3, B3, m3, rfl, hq⟩, b3⟩
  have HR3 := Lib.hid (HR2.out.kept (b3.block _ HR2.out.lt))
  have HC3 := Lib.hid (HC2.out.next b3)
  have hne : q ≠ Rs := blk_ne hq HR3.out (by decide)
  have c8 := HR3.out.cell 8
  have f8 := HR3.out.frozen 8
  have HR4 := Lib.hid (show Blk (w3.setCell ⟨Rs, 8, none⟩ (.pointer (some ⟨q, 0, none⟩))) Rs 104 (resC R C Mv Mn v6 v7 (.pointer (some ⟨q, 0, none⟩)) v9 1) from HR3.out.store 8 _)
  have HC4 := Lib.hid (show Chg (fun k => k ≠ Rs) w (w3.setCell ⟨Rs, 8, none⟩ (.pointer (some ⟨q, 0, none⟩))) from HC3.out.set (fun _ e => e rfl) _)
  have HQ4 := Lib.hid (show Blk (w3.setCell ⟨Rs, 8, none⟩ (.pointer (some ⟨q, 0, none⟩))) q 161 #[.slice A3 0 0, .slice B3 0 0, .map (some m3)] from hq.kept (Below.heap_setCell _ _ _ _ hne))
  have HNE := Lib.hid hne
  simp only [resC, List.getElem?_toArray, List.getElem?_cons_zero, List.getElem?_cons_succ] at c8
  clear HR2 HC2 HR3 HC3 hq b3 hne
  go_upto_region 4 with fail
  generalize w3.setCell ⟨Rs, 8, none⟩ (.pointer (some ⟨q, 0, none⟩)) = w4 at *
  clear c8 f8
  refine region_mod (by kernel_rfl) (by kernel_rfl) (paI w4 R C Mv Mn Rd Rs q A c v9) (paP Rs A c) ?h0 ?hstep ?hfin
  case h0 => exact ⟨undef, undef, undef, undef, undef, undef, undef, undef, undef, undef, undef, undef, rfl, (Chg.refl _ _).drew, v6, v7, HR4.out.kept rfl⟩
  case hstep =>
    clear HR4 HC4 HQ4 HNE
    rintro i o ho a W ⟨v32, v33, v34, v35, v36, v37, v38, v39, v40, v41, v42, v43, rfl, HI⟩ hd
    rcases i with _ | i
    · skip
      simp only [List.getElem?_cons_succ, List.getElem?_cons_zero, Option.some.injEq] at ho
      subst ho
      unfold paF
      go_wp2_with fail
      exact ⟨⟨_, _, _, _, _, _, _, _, _, _, _, _, rfl, HI⟩, rfl, fun j hj h => by rcases j with _ | _ | _ | _ | _ | _ | _ | _ | _ | _ | _ | _ | _ | _ | j <;> first | exact absurd rfl hj | exact h⟩
    rcases i with _ | i
    · skip
      simp only [List.getElem?_cons_succ, List.getElem?_cons_zero, Option.some.injEq] at ho
      subst ho
      unfold paF
      go_wp2_with fail
      exact ⟨⟨_, _, _, _, _, _, _, _, _, _, _, _, rfl, HI⟩, rfl, fun j hj h => by rcases j with _ | _ | _ | _ | _ | _ | _ | _ | _ | _ | _ | _ | _ | _ | j <;> first | exact absurd rfl hj | exact h⟩
    rcases i with _ | i
    · skip
      simp only [List.getElem?_cons_succ, List.getElem?_cons_zero, Option.some.injEq] at ho
      subst ho
      unfold paF
      go_wp2_with fail
      exact ⟨⟨_, _, _, _, _, _, _, _, _, _, _, _, rfl, HI⟩, rfl, fun j hj h => by rcases j with _ | _ | _ | _ | _ | _ | _ | _ | _ | _ | _ | _ | _ | _ | j <;> first | exact absurd rfl hj | exact h⟩
    rcases i with _ | i
    · skip
      simp only [List.getElem?_cons_succ, List.getElem?_cons_zero, Option.some.injEq] at ho
      subst ho
      obtain rfl : v34 = .slice A 0 c := hd ⟨2, .data⟩ (by simp) rfl
      unfold paF
      go_wp2_with fail
      exact ⟨⟨_, _, _, _, _, _, _, _, _, _, _, _, rfl, HI⟩, rfl, fun j hj h => by rcases j with _ | _ | _ | _ | _ | _ | _ | _ | _ | _ | _ | _ | _ | _ | j <;> first | exact absurd rfl hj | exact h⟩
    rcases i with _ | i
    · skip
      simp only [List.getElem?_cons_succ, List.getElem?_cons_zero, Option.some.injEq] at ho
      subst ho
      obtain rfl : v35 = .int .i64 0 := hd ⟨3, .data⟩ (by simp) rfl
      have bl : Below W.heap.size W (W.alloc (.cells #[] 4)) := (Below.refl _ _).alloc (Nat.le_refl _) _
      have HI2 := HI.below bl
      clear HI
      unfold paF
      go_wp2_with fail
      exact ⟨⟨_, _, _, _, _, _, _, _, _, _, _, _, rfl, HI2⟩, ⟨_, _, rfl⟩, fun j hj h => by rcases j with _ | _ | _ | _ | _ | _ | _ | _ | _ | _ | _ | _ | _ | _ | j <;> first | exact absurd rfl hj | exact paP_below h bl⟩
    rcases i with _ | i
    · skip
      simp only [List.getElem?_cons_succ, List.getElem?_cons_zero, Option.some.injEq] at ho
      subst ho
      unfold paF
      go_wp2_with fail
      exact ⟨⟨_, _, _, _, _, _, _, _, _, _, _, _, rfl, HI⟩, rfl, fun j hj h => by rcases j with _ | _ | _ | _ | _ | _ | _ | _ | _ | _ | _ | _ | _ | _ | j <;> first | exact absurd rfl hj | exact h⟩
    rcases i with _ | i
    · skip
      simp only [List.getElem?_cons_succ, List.getElem?_cons_zero, Option.some.injEq] at ho
      subst ho
      obtain rfl : v37 = .slice A 0 c := hd ⟨5, .data⟩ (by simp) rfl
      unfold paF
      go_wp2_with fail
      exact ⟨⟨_, _, _, _, _, _, _, _, _, _, _, _, rfl, HI⟩, rfl, fun j hj h => by rcases j with _ | _ | _ | _ | _ | _ | _ | _ | _ | _ | _ | _ | _ | _ | j <;> first | exact absurd rfl hj | exact h⟩
    rcases i with _ | i
    · skip
      simp only [List.getElem?_cons_succ, List.getElem?_cons_zero, Option.some.injEq] at ho
      subst ho
      obtain rfl : v38 = .int .i64 0 := hd ⟨6, .data⟩ (by simp) rfl
      have bl : Below W.heap.size W (W.alloc (.cells #[] 58)) := (Below.refl _ _).alloc (Nat.le_refl _) _
      have HI2 := HI.below bl
      clear HI
      unfold paF
      go_wp2_with fail
      exact ⟨⟨_, _, _, _, _, _, _, _, _, _, _, _, rfl, HI2⟩, ⟨_, _, rfl⟩, fun j hj h => by rcases j with _ | _ | _ | _ | _ | _ | _ | _ | _ | _ | _ | _ | _ | _ | j <;> first | exact absurd rfl hj | exact paP_below h bl⟩
    rcases i with _ | i
    · skip
      simp only [List.getElem?_cons_succ, List.getElem?_cons_zero, Option.some.injEq] at ho
      subst ho
      obtain rfl : v32 = .pointer (some ⟨Rs, 0, none⟩) := hd ⟨0, .data⟩ (by simp) rfl
      unfold paF
      go_wp2_with fail
      exact ⟨⟨_, _, _, _, _, _, _, _, _, _, _, _, rfl, HI⟩, rfl, fun j hj h => by rcases j with _ | _ | _ | _ | _ | _ | _ | _ | _ | _ | _ | _ | _ | _ | j <;> first | exact absurd rfl hj | exact h⟩
    rcases i with _ | i
    · skip
      simp only [List.getElem?_cons_succ, List.getElem?_cons_zero, Option.some.injEq] at ho
      subst ho
      obtain rfl : v40 = .pointer (some ⟨Rs, 0, none⟩) := hd ⟨8, .data⟩ (by simp) rfl
      unfold paF
      go_wp2_with fail
      exact ⟨⟨_, _, _, _, _, _, _, _, _, _, _, _, rfl, HI⟩, rfl, fun j hj h => by rcases j with _ | _ | _ | _ | _ | _ | _ | _ | _ | _ | _ | _ | _ | _ | j <;> first | exact absurd rfl hj | exact h⟩
    rcases i with _ | i
    · skip
      simp only [List.getElem?_cons_succ, List.getElem?_cons_zero, Option.some.injEq] at ho
      subst ho
      obtain rfl : v41 = .pointer (some ⟨Rs, 7, none⟩) := hd ⟨9, .data⟩ (by simp) rfl
      obtain ⟨A2, c2, p4⟩ : ∃ A c, v36 = .slice A 0 c := hd ⟨4, .data⟩ (by simp) rfl
      subst p4
      have HI2 := HI.set7 (.slice A2 0 c2)
      obtain ⟨v6, v7, hb⟩ := HI.ex
      have d7 := hb.cell 7
      have f7 := hb.frozen 7
      simp only [resC, List.getElem?_toArray, List.getElem?_cons_zero, List.getElem?_cons_succ] at d7
      clear HI hb
      unfold paF
      go_wp2_with fail
      exact ⟨⟨_, _, _, _, _, _, _, _, _, _, _, _, rfl, HI2⟩, trivial, fun j hj h => by rcases j with _ | _ | _ | _ | _ | _ | _ | _ | _ | _ | _ | _ | _ | _ | j <;> first | exact absurd rfl hj | exact paP_set7 h _⟩
    rcases i with _ | i
    · skip
      simp only [List.getElem?_cons_succ, List.getElem?_cons_zero, Option.some.injEq] at ho
      subst ho
      obtain rfl : v33 = .pointer (some ⟨Rs, 0, none⟩) := hd ⟨1, .data⟩ (by simp) rfl
      unfold paF
      go_wp2_with fail
      exact ⟨⟨_, _, _, _, _, _, _, _, _, _, _, _, rfl, HI⟩, rfl, fun j hj h => by rcases j with _ | _ | _ | _ | _ | _ | _ | _ | _ | _ | _ | _ | _ | _ | j <;> first | exact absurd rfl hj | exact h⟩
    rcases i with _ | i
    · skip
      simp only [List.getElem?_cons_succ, List.getElem?_cons_zero, Option.some.injEq] at ho
      subst ho
      obtain rfl : v42 = .pointer (some ⟨Rs, 0, none⟩) := hd ⟨11, .data⟩ (by simp) rfl
      unfold paF
      go_wp2_with fail
      exact ⟨⟨_, _, _, _, _, _, _, _, _, _, _, _, rfl, HI⟩, rfl, fun j hj h => by rcases j with _ | _ | _ | _ | _ | _ | _ | _ | _ | _ | _ | _ | _ | _ | j <;> first | exact absurd rfl hj | exact h⟩
    rcases i with _ | i
    · skip
      simp only [List.getElem?_cons_succ, List.getElem?_cons_zero, Option.some.injEq] at ho
      subst ho
      obtain rfl : v43 = .pointer (some ⟨Rs, 6, none⟩) := hd ⟨12, .data⟩ (by simp) rfl
      obtain ⟨A2, c2, p4⟩ : ∃ A c, v39 = .slice A 0 c := hd ⟨7, .data⟩ (by simp) rfl
      subst p4
      have HI2 := HI.set6 (.slice A2 0 c2)
      obtain ⟨v6, v7, hb⟩ := HI.ex
      have d7 := hb.cell 6
      have f7 := hb.frozen 6
      have HC : Hid ((W.setCell ⟨Rs, 6, none⟩ (.slice A2 0 c2)).cell? ⟨Rs, 6, none⟩ = some (.slice A2 0 c2)) := Lib.hid ((hb.store 6 _).cell 6)
      simp only [resC, List.getElem?_toArray, List.getElem?_cons_zero, List.getElem?_cons_succ] at d7
      clear HI hb
      unfold paF
      go_wp2_with fail
      exact ⟨⟨_, _, _, _, _, _, _, _, _, _, _, _, rfl, HI2⟩, ⟨_, _, HC.out⟩, fun j hj h => by rcases j with _ | _ | _ | _ | _ | _ | _ | _ | _ | _ | _ | _ | _ | _ | j <;> first | exact absurd rfl hj | exact h⟩
    simp at ho
  case hfin =>
    rintro a W ⟨v32, v33, v34, v35, v36, v37, v38, v39, v40, v41, v42, v43, rfl, HI⟩ hP
    obtain ⟨A6, c6, h6⟩ : ∃ A c, W.cell? ⟨Rs, 6, none⟩ = some (.slice A 0 c) := hP 13 (by simp)
    obtain ⟨u6, u7, hb⟩ := HI.ex
    obtain rfl : u6 = .slice A6 0 c6 := by
      have := hb.cell 6
      rw [h6] at this
      exact (Option.some.inj this).symm
    have HR5 := Lib.hid hb
    have HC5 := Lib.hid (show Chg (fun k => k ≠ Rs) w W from HC4.out.trans HI.ch (fun _ _ h => h))
    have HQ5 := Lib.hid (show Blk W q 161 #[.slice A3 0 0, .slice B3 0 0, .map (some m3)] from HQ4.out.kept (HI.ch.block _ HQ4.out.lt HNE.out))
    clear hP h6 HR4 HC4 HQ4 HNE HI hb
    have c8 := HR5.out.cell 8
    simp only [resC, List.getElem?_toArray, List.getElem?_cons_zero, List.getElem?_cons_succ] at c8
    unfold paF
    go_wp2_with fail
    refine (parts_of q W (found_c q A3 0 W (HQ5.out.cell 0))).mono ?_
    rintro _ w6 ⟨⟨A7, c7, rfl⟩, b6⟩
    have HR6 := Lib.hid (HR5.out.kept (b6.block _ HR5.out.lt))
    have HC6 := Lib.hid (HC5.out.next b6)
    have HQ6 := Lib.hid (HQ5.out.kept (b6.block _ HQ5.out.lt))
    clear HR5 HC5 HQ5 b6 c8
    go_wp2_with fail
    go_loopw [50] (fun iv wx => iv = .int .i64 0 ∧ Hid (WIs w6 wx)) (fun _ _ => 0)
    case atStart => exact ⟨rfl, Lib.hid rfl⟩
    case round =>
      obtain ⟨rfl, hw⟩ := hrel
      obtain rfl : wr = w6 := hw.out
      clear hw
      go_wp2_with fail
      go_loopw [81] (fun iv wx => iv = .int .i64 0 ∧ Hid (WIs wr wx)) (fun _ _ => 0)
      case atStart => exact ⟨rfl, Lib.hid rfl⟩
      case round =>
        obtain ⟨rfl, hw⟩ := hrel
        have e := hw.out
        subst e
        clear hw
        have c8 := HR6.out.cell 8
        simp only [resC, List.getElem?_toArray, List.getElem?_cons_zero, List.getElem?_cons_succ] at c8
        go_wp2_with fail
        refine (order0_c q A3 0 _ (HQ6.out.cell 0)).mono ?_
        rintro _ w7 ⟨⟨A8, c8', rfl⟩, b7⟩
        have HR7 := Lib.hid (HR6.out.kept (b7.block _ HR6.out.lt))
        have HC7 := Lib.hid (HC6.out.next b7)
        clear HR6 HC6 HQ6 b7 c8
        go_wp2_with fail
        go_loopw [105] (fun iv wx => iv = .int .i64 0 ∧ Hid (WIs w7 wx)) (fun _ _ => 0)
        case atStart => exact ⟨rfl, Lib.hid rfl⟩
        case round =>
          obtain ⟨rfl, hw⟩ := hrel
          have e := hw.out
          subst e
          go_wp2_with fail
          go_ret
          exact ⟨⟨_, _, rfl⟩, ⟨_, _, _, _, HR7.out⟩, HC7.out⟩
end Go.Proofs.YtoicnghjjgkebaaGreatDoor
namespace Go.Proofs.YtoicnghjjgkebaaGreatDoor
open Go.RowKit Go.Shelf
/-- Rounds of no formula, and their result. -/
structure BegS (w : World) (S : Nat) (R C : Int) (Rd Rs Mv Mn Bd M5 : Nat) (pv : List (Id × Value)) : Prop where
  rd : ∃ Mr Mc Mx, Blk w Rd 130 (rdC S Rs Mr Mc Mx .nilFunc)
  rs : ∃ v6 v7 v8, Blk w Rs 104 (resC R C Mv Mn v6 v7 v8 (.pointer (some ⟨Bd, 0, none⟩)) 0)
  bd : ∃ x y z u v, Blk w Bd 154 #[x, y, z, u, v, .map (some M5)]
  mv : MapG idv w Mv pv
  mn : MapG idv w Mn []
  m5 : MapG idv w M5 []
def BegP (own0 : Tags) (PV : List (Id × Value) → Prop) (S : Nat) (R C : Int) (w : World) (e : Ending) (w' : World) : Prop :=
  ∃ Rd Rs Mv Mn Bd M5 pv, e = .returned (.pointer (some ⟨Rd, 0, none⟩)) ∧ BegS w' S R C Rd Rs Mv Mn Bd M5 pv ∧ PV pv ∧ (w.heap.size ≤ Rd ∧ w.heap.size ≤ Rs) ∧ Chg (fun k => own0 k = 0) w w'
def RunP (own0 : Tags) (PV : List (Id × Value) → Prop) (w : World) (e : Ending) (w' : World) : Prop :=
  ∃ Rs Mv Mn Bd M5 pv, e = .returned (.pointer (some ⟨Rs, 0, none⟩)) ∧ ResAt w' Rs Mv Mn Bd M5 pv 1 ∧ PV pv ∧ Chg (fun k => own0 k = 0) w w'
theorem map_ne {K : Type} {enc : K → Value} {w : World} {s b : Nat} {l : List (K × Value)} {t : TypeId} {cs : Array Value} (h : MapG enc w s l) (k : Blk w b t cs) : s ≠ b := fun e => by
  subst e
  obtain ⟨es, c, h1, -⟩ := h
  unfold Blk at k
  rw [h1] at k
  cases k
set_option maxRecDepth 100000 in
set_option maxHeartbeats 4000000 in
theorem run_c (own0 : Tags) (PV : List (Id × Value) → Prop) (S pR pC pS pN : Nat) (R C : Int) (fn : Fn) (fi ca : Array Value) (w : World) (hS : ShB w S pR pC pS pN)
    (hb : Calls Tryz.prog 38 #[.pointer (some ⟨S, 0, none⟩)] w (BegP own0 PV S R C w)) :
    Calls Tryz.prog 20 #[.pointer (some ⟨S, 0, none⟩), .func fn fi ca] w (RunP own0 PV w) := by
  have HB := Lib.hid hb
  obtain ⟨⟨c0, c1, c2, c3⟩, -, -⟩ := Blk.four hS
  clear hb hS
  go_enter Tryz.func20, Tryz.ntmps20
  go_wp2_with fail
  refine HB.out.mono ?_
  rintro _ w1 ⟨Rd, Rs, Mv, Mn, Bd, M5, pv, rfl, hb, hp, ⟨hg1, hg2⟩, hc⟩
  obtain ⟨Mr, Mc, Mx, hd⟩ := hb.rd
  obtain ⟨v6, v7, v8, hr⟩ := hb.rs
  obtain ⟨x, y, z, u, v, hbd⟩ := hb.bd
  have hne : Rs ≠ Rd := blk_ne hr hd (by decide)
  have d6 := hd.cell 6
  have f6 := hd.frozen 6
  have k1 : Below w.heap.size w w → True := fun _ => trivial
  have hW : ∀ k, k ≠ Rd → (w1.setCell ⟨Rd, 6, none⟩ (.func fn fi ca)).heap[k]? = w1.heap[k]? := fun k hk => Below.heap_setCell _ _ _ _ hk
  have HR1 := Lib.hid (hr.kept (hW _ hne))
  have HD1 := Lib.hid (show Blk (w1.setCell ⟨Rd, 6, none⟩ (.func fn fi ca)) Rd 130 (rdC S Rs Mr Mc Mx (.func fn fi ca)) from hd.store 6 _)
  have HBD1 := Lib.hid (hbd.kept (hW _ (blk_ne hbd hd (by decide))))
  have HMV1 := Lib.hid (hb.mv.kept (hW _ (map_ne hb.mv hd)))
  have HMN1 := Lib.hid (hb.mn.kept (hW _ (map_ne hb.mn hd)))
  have HM51 := Lib.hid (hb.m5.kept (hW _ (map_ne hb.m5 hd)))
  have HC1 := Lib.hid (hc.set (p := ⟨Rd, 6, none⟩) (fun h => by simp at h; omega) (.func fn fi ca))
  have HP := Lib.hid (And.intro hp hg2)
  simp only [rdC, List.getElem?_toArray, List.getElem?_cons_zero, List.getElem?_cons_succ] at d6
  clear hd hr hb hbd hc hp hg1 hg2 hne hW k1 HB c0 c1 c2 c3
  go_upto_region 5 with fail
  generalize w1.setCell ⟨Rd, 6, none⟩ (.func fn fi ca) = w2 at *
  clear d6 f6
  go_loopw [6] (fun iv wx => iv = undef ∧ Hid (WIs w2 wx)) (fun _ _ => 0)
  case atStart => exact ⟨rfl, Lib.hid rfl⟩
  case round =>
    obtain ⟨rfl, hw⟩ := hrel
    obtain rfl : wr = w2 := hw.out
    clear hw
    go_wp2_with fail
    refine (pass_c Rd Rs S Mr Mc Mx Mv Mn R C _ v6 v7 v8 _ _ HD1.out HR1.out).mono ?_
    rintro _ w3 ⟨⟨A, c, rfl⟩, ⟨A6, c6, u7, u8, hr3⟩, hc3⟩
    have k3 : ∀ k, k < wr.heap.size → k ≠ Rs → w3.heap[k]? = wr.heap[k]? := fun k hk hn => hc3.block k hk hn
    have hne : Rd ≠ Rs := blk_ne HD1.out HR1.out (by decide)
    have HR3 := Lib.hid hr3
    have HD3 := Lib.hid (HD1.out.kept (k3 _ HD1.out.lt hne))
    have HBD3 := Lib.hid (HBD1.out.kept (k3 _ HBD1.out.lt (blk_ne HBD1.out HR1.out (by decide))))
    have HMV3 := Lib.hid (HMV1.out.kept (k3 _ HMV1.out.lt (map_ne HMV1.out HR1.out)))
    have HMN3 := Lib.hid (HMN1.out.kept (k3 _ HMN1.out.lt (map_ne HMN1.out HR1.out)))
    have HM53 := Lib.hid (HM51.out.kept (k3 _ HM51.out.lt (map_ne HM51.out HR1.out)))
    have HC3 := Lib.hid (HC1.out.trans hc3 (fun j hj _ e => by have := HP.out.2; omega))
    clear hr3 hc3 k3 hne HR1 HD1 HBD1 HMV1 HMN1 HM51 HC1
    go_wp2_with fail
    refine (wide_c Rd Rs A6 c6 w3 (HD3.out.cell 1) (HR3.out.cell 6)).mono ?_
    rintro _ w4 ⟨rfl, b4⟩
    have HD4 := Lib.hid (HD3.out.kept (b4.block _ HD3.out.lt))
    have HR4 := HR3.out.kept (b4.block _ HR3.out.lt)
    have HBD4 := HBD3.out.kept (b4.block _ HBD3.out.lt)
    have HRA := Lib.hid (show ResAt w4 Rs Mv Mn Bd M5 pv 1 from ⟨HR4.cell 2, HR4.cell 3, HR4.cell 9, HR4.cell 10, HBD4.cell 5, HMV3.out.kept (b4.block _ HMV3.out.lt), HMN3.out.kept (b4.block _ HMN3.out.lt), HM53.out.kept (b4.block _ HM53.out.lt)⟩)
    have HC4 := Lib.hid (HC3.out.next b4)
    have d1 := HD4.out.cell 1
    simp only [rdC, List.getElem?_toArray, List.getElem?_cons_zero, List.getElem?_cons_succ] at d1
    clear b4 HR4 HBD4 HC3 HM53 HMN3 HMV3 HBD3 HD3 HR3
    go_wp2_with fail
    go_ret
    exact ⟨Rs, Mv, Mn, Bd, M5, pv, rfl, HRA.out, HP.out.1, HC4.out⟩
set_option maxRecDepth 100000 in
set_option maxHeartbeats 2000000 in
theorem all_of (own0 : Tags) (PV : List (Id × Value) → Prop) (S : Nat) (lib : Value) (hl : lib.oneCell' = true) (w : World)
    (hr : ∀ fi ca W, Below w.heap.size w W → Calls Tryz.prog 20 #[.pointer (some ⟨S, 0, none⟩), .func (.func 21) fi ca] W (RunP own0 PV W)) :
    Calls Tryz.prog 6 #[.pointer (some ⟨S, 0, none⟩), lib] w (RunP own0 PV w) := by
  have hb : Below w.heap.size w (w.alloc (.cells #[lib] 77)) := (Below.refl _ _).alloc (Nat.le_refl _) _
  have HB := Lib.hid hb
  have HR := Lib.hid hr
  clear hr
  go_enter Tryz.func6, Tryz.ntmps6
  go_wp2_with fail
  refine (HR.out _ _ _ hb).mono ?_
  rintro _ w2 ⟨Rs, Mv, Mn, Bd, M5, pv, rfl, hA, hp, hc⟩
  have H := Lib.hid (And.intro hA (And.intro hp ((Chg.of (S := fun k => own0 k = 0) hb).trans hc (fun _ _ h => h))))
  clear hA hp hc hb HB HR
  go_wp2_with fail
  go_ret
  exact ⟨Rs, Mv, Mn, Bd, M5, pv, rfl, H.out.1, H.out.2.1, H.out.2.2⟩
end Go.Proofs.YtoicnghjjgkebaaGreatDoor
namespace Go.Proofs.YtoicnghjjgkebaaGreatDoor
open Go.RowKit Go.Shelf
/-- A drawn region, operation by operation, with a letter that each may change; what hangs on an operation need not outlive it. -/
theorem region_modG {γ : Type} {P : Program} {id : Nat} {Q : Exit → Act → World → Prop} {a : Act} {w : World} {l : List Oper} (hm : P.follows .mixedOrders = true) (hd : downB l = true) (I : γ → Act → World → Prop) (Post : γ → Nat → Act → World → Prop) (g0 : γ) (h0 : I g0 a w.drew)
    (hstep : ∀ (i : Nat) (o : Oper), l[i]? = some o → ∀ g a w, I g a w → (∀ e ∈ o.after, Region.binds .any e = true → Post g e.on a w) → wpList P l.toArray (Exit.then (fun a' w' => ∃ g', I g' a' w' ∧ Post g' i a' w' ∧ ∀ j, j ≠ i → (∀ o', l[j]? = some o' → ∀ e ∈ o'.after, Region.binds .any e = true → e.on ≠ i) → Post g j a w → Post g' j a' w') Q) [o] a w)
    (hfin : ∀ g a w, I g a w → (∀ i, i < l.length → Post g i a w) → Q .normal a w) : (Code.region id l.toArray true).wp P Q a w := by
  refine wp_region_any hm (any_inv (fun f s a w => ∃ g, I g a w ∧ (∀ i, i < l.length → s.getD i false = true → Post g i a w) ∧ s.size = l.length ∧ f = s.toList.count false ∧ ∀ i o, l[i]? = some o → s.getD i false = true → ∀ e ∈ o.after, Region.binds .any e = true → s.getD e.on false = true) ?_ ?_ _ _ _ _ ⟨g0, h0, ?_, by simp, by simp [List.count_replicate], ?_⟩)
  · rintro s a w ⟨g, hI, hP, hs, hf, -⟩
    have hall : ∀ i, i < l.length → s.getD i false = true := fun i hi => by
      have h1 : false ∉ s.toList := List.count_eq_zero.1 hf.symm
      rw [Array.getD_eq_getD_getElem?, Array.getElem?_eq_getElem (by omega)]
      cases hb : s[i]'(by omega) with
      | true => rfl
      | false => exact absurd (by rw [← hb]; simp) h1
    refine ⟨?_, hfin g a w hI fun i hi => hP i hi (hall i hi)⟩
    cases hr : Region.ready .any l.toArray s with
    | nil => rfl
    | cons j js =>
      have hj : j ∈ Region.ready .any l.toArray s := by rw [hr]; simp
      obtain ⟨h1, o, ho, -⟩ := mem_ready.1 hj
      have hjl : j < l.length := by simpa using (Array.getElem?_eq_some_iff.1 ho).1
      have h2 := hall j hjl
      rw [Array.getD_eq_getD_getElem?, Array.getElem?_eq_getElem (by omega)] at h1 h2
      simp at h1 h2
      rw [h1] at h2
      cases h2
  · rintro f s a w ⟨g, hI, hP, hs, hf, hC⟩
    refine ⟨fun hr => hfin g a w hI fun i hi => hP i hi (all_listed hd hs hr i hi), fun i hi => ?_⟩
    obtain ⟨h1, o, ho, hdep⟩ := mem_ready.1 hi
    have hol : l[i]? = some o := by simpa using ho
    have hil : i < l.length := (List.getElem?_eq_some_iff.1 hol).1
    have hni : s.getD i false = false := by
      rw [Array.getD_eq_getD_getElem?, Array.getElem?_eq_getElem (by omega)] at h1 ⊢
      simpa using h1
    have hget : ∀ j, (s.setIfInBounds i true).getD j false = if j = i then true else s.getD j false := fun j => by
      rw [Array.getD_eq_getD_getElem?, Array.getD_eq_getD_getElem?]
      by_cases e : j = i
      · subst e
        rw [Array.getElem?_setIfInBounds_self_of_lt (by omega), if_pos rfl]
        rfl
      · rw [Array.getElem?_setIfInBounds_ne (fun h => e h.symm), if_neg e]
    refine wpOp_mono ?_ (wpOp_of_list ho (hstep i o hol g a w hI fun e he hb => hP e.on (Nat.lt_trans (downB_spec hd hol he hb) hil) (hdep e he hb)))
    rintro a' w' ⟨g', hI', hi', hk⟩
    refine ⟨g', hI', fun j hj hl => ?_, by simpa using hs, ?_, ?_⟩
    · by_cases e : j = i
      · subst e; exact hi'
      · rw [hget, if_neg e] at hl
        refine hk j e (fun o' ho' e' he' hb' hei => ?_) (hP j hj hl)
        have := hC j o' ho' hl e' he' hb'
        rw [hei, hni] at this
        cases this
    · rw [Array.toList_setIfInBounds, List.count_set (by simp; omega)]
      rw [Array.getD_eq_getD_getElem?, Array.getElem?_eq_getElem (by omega)] at h1
      simp at h1
      simp [h1]
      have e : Array.count false s = List.count false s.toList := by simp
      omega
    · intro j o' ho' hl e' he' hb'
      rw [hget]
      split
      · rfl
      · rw [hget] at hl
        split at hl
        · rename_i e
          subst e
          rw [hol] at ho'
          cases ho'
          exact hdep e' he' hb'
        · exact hC j o' ho' hl e' he' hb'
  · intro i hi h
    rw [Array.getD_eq_getD_getElem?, Array.getElem?_replicate] at h
    split at h <;> simp at h
  · intro i o ho h
    rw [Array.getD_eq_getD_getElem?, Array.getElem?_replicate] at h
    split at h <;> simp at h
/-- The axes, all live; what has been turned since the start is theirs alone. -/
structure BgI (own0 : Tags) (w : World) (pR pC : Nat) (ids jds : List Id) (own : Tags) (W : World) : Prop where
  r : AxisAt W own 1 pR ids (List.replicate ids.length true)
  c : AxisAt W own 2 pC jds (List.replicate jds.length true)
  f : Fresh own W
  s : ∀ k, k < w.heap.size → own k = own0 k
  ch : Chg (fun k => own0 k = 0) w W
section
variable {own0 : Tags} {w : World} {pR pC : Nat} {ids jds : List Id} {own own' : Tags} {W W' : World}
theorem BgI.below (h : BgI own0 w pR pC ids jds own W) (b : Below W.heap.size W W') : BgI own0 w pR pC ids jds own W' := ⟨h.r.keep (Same.below b), h.c.keep (Same.below b), h.f.mono b.size, h.s, h.ch.next b⟩
theorem chg_tr {t : Nat} (h : Tr own t W own' W') : Chg (fun k => own k ≠ t) W W' := ⟨h.os, h.tape, h.output, h.size, fun k hk hs => h.block k hk hs⟩
theorem BgI.row (h : BgI own0 w pR pC ids jds own W) (t : Tr own 1 W own' W') (a : AxisAt W' own' 1 pR ids (List.replicate ids.length true)) : BgI own0 w pR pC ids jds own' W' :=
  ⟨a, h.c.keep (t.toSame (by decide)), h.f.tr t, fun k hk => (t.same k (Nat.lt_of_lt_of_le hk h.ch.size)).trans (h.s k hk), h.ch.trans (chg_tr t) (fun j hj e => by rw [h.s j hj, e]; decide)⟩
theorem BgI.col (h : BgI own0 w pR pC ids jds own W) (t : Tr own 2 W own' W') (a : AxisAt W' own' 2 pC jds (List.replicate jds.length true)) : BgI own0 w pR pC ids jds own' W' :=
  ⟨h.r.keep (t.toSame (by decide)), a, h.f.tr t, fun k hk => (t.same k (Nat.lt_of_lt_of_le hk h.ch.size)).trans (h.s k hk), h.ch.trans (chg_tr t) (fun j hj e => by rw [h.s j hj, e]; decide)⟩
theorem BgI.set (h : BgI own0 w pR pC ids jds own W) {b : Nat} (hb : own b = 0) (hw : w.heap.size ≤ b) (o : Nat) (v : Value) : BgI own0 w pR pC ids jds own (W.setCell ⟨b, o, none⟩ v) :=
  ⟨h.r.keep (Same.setCell (by show own b ≠ 1; omega) v), h.c.keep (Same.setCell (by show own b ≠ 2; omega) v), h.f.mono (by simp [World.setCell]), h.s, h.ch.set (fun hl => by simp at hl; omega) v⟩
end
/-- The axis has been made ready. -/
def Rdy (W : World) (p : Nat) : Prop := ∃ s, W.cell? ⟨p, 2, none⟩ = some (.map (some s))
theorem Rdy.ready {W : World} {own : Tags} {t p : Nat} {ids : List Id} {live : List Bool} (h : AxisAt W own t p ids live) (r : Rdy W p) : Ready W own t p ids live := h.is.resolve_right fun ⟨vI, vL, a⟩ => by
  obtain ⟨s, hs⟩ := r
  have := a.blk.cell 2
  rw [hs] at this
  simp at this
theorem Rdy.of {W : World} {own : Tags} {t p : Nat} {ids : List Id} {live : List Bool} (h : Ready W own t p ids live) : Rdy W p := by
  obtain ⟨vI, vL, s, g, vV, a, m⟩ := h
  exact ⟨s, a.blk.cell 2⟩
theorem AxisAt.tagp {W : World} {own : Tags} {t p : Nat} {ids : List Id} {live : List Bool} (h : AxisAt W own t p ids live) : own p = t ∧ p < W.heap.size := by
  rcases h.is with ⟨vI, vL, s, g, vV, a, m⟩ | ⟨vI, vL, a⟩ <;> exact ⟨a.tag, a.blk.lt⟩
theorem aliveOf_all (ids : List Id) : aliveOf ids (List.replicate ids.length true) = ids := by
  induction ids with
  | nil => rfl
  | cons x l ih => simp [aliveOf, List.replicate_succ, ih]
/-- An empty map of nobody's, since the start. -/
def MB (own : Tags) (w W : World) (b : Nat) : Prop := w.heap.size ≤ b ∧ own b = 0 ∧ MapG idv W b []
def RB (own : Tags) (w W : World) (R C : Int) (g b1 b2 : Nat) : Prop := w.heap.size ≤ g ∧ own g = 0 ∧ Blk W g 104 (resC R C b1 b2 (.slice none 0 0) (.slice none 0 0) (.pointer none) (.pointer none) 0) ∧ MB own w W b1 ∧ MB own w W b2 ∧ b1 ≠ b2
section
variable {own own' : Tags} {w W W' : World}
theorem MB.keep {b : Nat} (h : MB own w W b) (k : Same 0 own W own' W') : MB own' w W' b := have e := k b h.2.2.lt h.2.1; ⟨h.1, e.2, h.2.2.kept e.1⟩
theorem RB.keep {R C : Int} {g b1 b2 : Nat} (h : RB own w W R C g b1 b2) (k : Same 0 own W own' W') : RB own' w W' R C g b1 b2 := have e := k g h.2.2.1.lt h.2.1; ⟨h.1, e.2, h.2.2.1.kept e.1, h.2.2.2.1.keep k, h.2.2.2.2.1.keep k, h.2.2.2.2.2⟩
theorem MB.set {b h : Nat} {ty : TypeId} {cs : Array Value} (m : MB own w W b) (k : Blk W h ty cs) (v : Value) : MB own w (W.setCell ⟨h, 0, none⟩ v) b := ⟨m.1, m.2.1, m.2.2.kept (Below.heap_setCell _ _ _ _ (map_ne m.2.2 k))⟩
theorem RB.set {R C : Int} {g b1 b2 h : Nat} {ty : TypeId} {cs : Array Value} (m : RB own w W R C g b1 b2) (k : Blk W h ty cs) (ht : 104 ≠ ty) (v : Value) : RB own w (W.setCell ⟨h, 0, none⟩ v) R C g b1 b2 :=
  ⟨m.1, m.2.1, m.2.2.1.kept (Below.heap_setCell _ _ _ _ (blk_ne m.2.2.1 k ht)), m.2.2.2.1.set k v, m.2.2.2.2.1.set k v, m.2.2.2.2.2⟩
end
/-- The frame at the region. -/
def bgF (S : Nat) (v3 v10 v11 v12 v13 v14 v15 v16 v17 v18 v19 v20 v21 v22 v23 : Value) : Act := { tmps := #[.pointer (some ⟨S, 0, none⟩), undef, .pointer none, v3, undef, undef, undef, undef, undef, undef, v10, v11, v12, v13, v14, v15, v16, v17, v18, v19, v20, v21, v22, v23, undef, undef, undef, undef, undef, undef, undef, undef, undef, undef, undef, undef, undef, undef, undef, undef, undef, undef, undef, undef, undef, undef, undef, undef, undef, undef, undef, undef, undef, undef, undef, undef, undef, undef, undef, undef, undef, undef, undef, undef, undef, undef, undef, undef, undef, undef, undef, undef, undef, undef, undef, undef, undef, undef, undef, undef, undef, undef, undef, undef, undef, undef, undef, undef, undef, undef, undef, undef, undef, undef, undef, undef, undef, undef, undef, undef, undef, undef, undef, undef, undef, undef, undef, undef, undef, undef, undef, undef, undef, undef, undef, undef, undef, undef, undef, undef, undef, undef, undef, undef, undef, undef, undef, undef, undef, undef, undef, undef, undef, undef, undef, undef, undef, undef, undef], defers := [] }
def bgD (v20 v21 : Value) (W : World) : Prop := (∀ b, v20 = .map (some b) → b < W.heap.size ∧ v21 ≠ .map (some b)) ∧ ∀ b, v21 = .map (some b) → b < W.heap.size
theorem bgD.mono {v20 v21 : Value} {W W' : World} (h : bgD v20 v21 W) (k : W.heap.size ≤ W'.heap.size) : bgD v20 v21 W' := ⟨fun b e => ⟨Nat.lt_of_lt_of_le (h.1 b e).1 k, (h.1 b e).2⟩, fun b e => Nat.lt_of_lt_of_le (h.2 b e) k⟩
def bgJ (own0 : Tags) (w : World) (S pR pC pS pN : Nat) (ids jds : List Id) (own : Tags) (a : Act) (W : World) : Prop := ∃ v3 v10 v11 v12 v13 v14 v15 v16 v17 v18 v19 v20 v21 v22 v23, a = bgF S v3 v10 v11 v12 v13 v14 v15 v16 v17 v18 v19 v20 v21 v22 v23 ∧ (BgI own0 w pR pC ids jds own W ∧ (own S = 0 ∧ ShB W S pR pC pS pN)) ∧ bgD v20 v21 W
def bgP (w : World) (S pR pC : Nat) (R C : Nat) (own : Tags) (i : Nat) (a : Act) (W : World) : Prop := match i with
  | 0 => a.tmps.getD 10 undef = .pointer (some ⟨S, 0, none⟩)
  | 1 => a.tmps.getD 11 undef = .pointer (some ⟨S, 0, none⟩)
  | 2 => a.tmps.getD 12 undef = .pointer (some ⟨S, 0, none⟩)
  | 3 => a.tmps.getD 13 undef = .pointer (some ⟨pR, 0, none⟩)
  | 4 => a.tmps.getD 14 undef = .int .i64 R ∧ Rdy W pR
  | 5 => a.tmps.getD 15 undef = .pointer (some ⟨S, 0, none⟩)
  | 6 => a.tmps.getD 16 undef = .pointer (some ⟨S, 0, none⟩)
  | 7 => a.tmps.getD 17 undef = .pointer (some ⟨S, 1, none⟩)
  | 8 => a.tmps.getD 18 undef = .pointer (some ⟨pC, 0, none⟩)
  | 9 => a.tmps.getD 19 undef = .int .i64 C ∧ Rdy W pC
  | 10 => ∃ b, a.tmps.getD 20 undef = .map (some b) ∧ MB own w W b
  | 11 => ∃ b, a.tmps.getD 21 undef = .map (some b) ∧ MB own w W b
  | 12 => ∃ b1 b2, a.tmps.getD 22 undef = .agg (resC R C b1 b2 (.slice none 0 0) (.slice none 0 0) (.pointer none) (.pointer none) 0) ∧ MB own w W b1 ∧ MB own w W b2 ∧ b1 ≠ b2
  | 13 => ∃ g b1 b2, a.tmps.getD 23 undef = .pointer (some ⟨g, 0, none⟩) ∧ RB own w W R C g b1 b2
  | 14 => ∃ h v, a.tmps.getD 3 undef = .pointer (some ⟨h, 0, none⟩) ∧ (w.heap.size ≤ h ∧ own h = 0) ∧ Blk W h 52 #[v]
  | 15 => ∃ h g b1 b2, a.tmps.getD 3 undef = .pointer (some ⟨h, 0, none⟩) ∧ (w.heap.size ≤ h ∧ own h = 0) ∧ Blk W h 52 #[.pointer (some ⟨g, 0, none⟩)] ∧ RB own w W R C g b1 b2
  | _ => True
section
variable {w W W' : World} {S pR pC R C : Nat} {own own' : Tags} {i : Nat} {a : Act}
/-- What keeps nobody's blocks, and leaves ready what is, keeps all. -/
theorem bgP_keep (h : bgP w S pR pC R C own i a W) (k : Same 0 own W own' W') (kR : i = 4 → Rdy W pR → Rdy W' pR) (kC : i = 9 → Rdy W pC → Rdy W' pC) : bgP w S pR pC R C own' i a W' := by
  unfold bgP at h ⊢
  split at h
  case h_5 => exact ⟨h.1, kR rfl h.2⟩
  case h_10 => exact ⟨h.1, kC rfl h.2⟩
  case h_11 => obtain ⟨b, h1, h2⟩ := h; exact ⟨b, h1, h2.keep k⟩
  case h_12 => obtain ⟨b, h1, h2⟩ := h; exact ⟨b, h1, h2.keep k⟩
  case h_13 => obtain ⟨b1, b2, h1, h2, h3, h4⟩ := h; exact ⟨b1, b2, h1, h2.keep k, h3.keep k, h4⟩
  case h_14 => obtain ⟨g, b1, b2, h1, h2⟩ := h; exact ⟨g, b1, b2, h1, h2.keep k⟩
  case h_15 => obtain ⟨b, v, h1, ⟨h2, h3⟩, h4⟩ := h; have e := k b h4.lt h3; exact ⟨b, v, h1, ⟨h2, e.2⟩, h4.kept e.1⟩
  case h_16 => obtain ⟨b, g, b1, b2, h1, ⟨h2, h3⟩, h4, h5⟩ := h; have e := k b h4.lt h3; exact ⟨b, g, b1, b2, h1, ⟨h2, e.2⟩, h4.kept e.1, h5.keep k⟩
  all_goals first | exact h | exact trivial
theorem Rdy.below {p : Nat} (h : Rdy W p) (b : Below W.heap.size W W') : Rdy W' p := by
  obtain ⟨s, hs⟩ := h
  exact ⟨s, (b.cell (p := ⟨p, 2, none⟩) (World.block_lt_of_cell? W _ hs)).trans hs⟩
theorem bgP_below (h : bgP w S pR pC R C own i a W) (b : Below W.heap.size W W') : bgP w S pR pC R C own i a W' := bgP_keep h (Same.below b) (fun _ r => r.below b) (fun _ r => r.below b)
theorem Rdy.tr {p t : Nat} (h : Rdy W p) (k : Tr own t W own' W') (hp : own p ≠ t) : Rdy W' p := by
  obtain ⟨s, hs⟩ := h
  exact ⟨s, (k.cell (p := ⟨p, 2, none⟩) (World.block_lt_of_cell? W _ hs) hp).trans hs⟩
theorem Rdy.set {p b o : Nat} (h : Rdy W p) (hp : p ≠ b) (v : Value) : Rdy (W.setCell ⟨b, o, none⟩ v) p := by
  obtain ⟨s, hs⟩ := h
  exact ⟨s, by rw [World.cell?_of_block (Below.heap_setCell _ _ _ _ (show (⟨p, 2, none⟩ : Addr).block ≠ b from hp))]; exact hs⟩
theorem bgP_set {h : Nat} {u v : Value} (hp : bgP w S pR pC R C own i a W) (hi : i ≠ 15) (k : Blk W h 52 #[u]) (h1 : pR ≠ h) (h2 : pC ≠ h) : bgP w S pR pC R C own i a (W.setCell ⟨h, 0, none⟩ v) := by
  unfold bgP at hp ⊢
  split at hp
  case h_5 => exact ⟨hp.1, hp.2.set h1 v⟩
  case h_10 => exact ⟨hp.1, hp.2.set h2 v⟩
  case h_11 => obtain ⟨b, q1, q2⟩ := hp; exact ⟨b, q1, q2.set k v⟩
  case h_12 => obtain ⟨b, q1, q2⟩ := hp; exact ⟨b, q1, q2.set k v⟩
  case h_13 => obtain ⟨b1, b2, q1, q2, q3, q4⟩ := hp; exact ⟨b1, b2, q1, q2.set k v, q3.set k v, q4⟩
  case h_14 => obtain ⟨g, b1, b2, q1, q2⟩ := hp; exact ⟨g, b1, b2, q1, q2.set k (by decide) v⟩
  case h_15 =>
    obtain ⟨b, x, q1, q2, q3⟩ := hp
    by_cases e : b = h
    · subst e; exact ⟨b, _, q1, q2, q3.store 0 v⟩
    · exact ⟨b, x, q1, q2, q3.kept (Below.heap_setCell _ _ _ _ e)⟩
  case h_16 => exact absurd rfl hi
  all_goals first | exact hp | exact trivial
end
@[go_sem ↓] theorem Tryz.build_res (R C : Int) (b1 b2 : Nat) (w : World) : (Instr.build 104 #[(0, .int .i64 R), (1, .int .i64 C), (2, .map (some b1)), (3, .map (some b2))]).run Tryz.prog w = .ok (.agg #[.int .i64 R, .int .i64 C, .map (some b1), .map (some b2), .slice none 0 0, .slice none 0 0, .slice none 0 0, .slice none 0 0, .pointer none, .pointer none, .int .i64 0]) w := by kernel_rfl
@[go_sem ↓] theorem Tryz.make_mv (w : World) : (Instr.makeMap 97 none).run Tryz.prog w = .ok (.map (some w.heap.size)) (w.alloc (.map #[] 0)) := by kernel_rfl
@[go_sem ↓] theorem Tryz.make_mn (w : World) : (Instr.makeMap 98 none).run Tryz.prog w = .ok (.map (some w.heap.size)) (w.alloc (.map #[] 0)) := by kernel_rfl
/-- What the region leaves, with its frame. -/
def Bg1 (own0 : Tags) (w : World) (S pR pC pS pN : Nat) (ids jds : List Id) (a : Act) (W : World) : Prop :=
  ∃ own h g b1 b2 u10 u11 u12 u13 u14 u15 u16 u17 u18 u19 u20 u21 u22 u23, a = bgF S (.pointer (some ⟨h, 0, none⟩)) u10 u11 u12 u13 u14 u15 u16 u17 u18 u19 u20 u21 u22 u23 ∧ (w.heap.size ≤ h ∧ own h = 0) ∧ Blk W h 52 #[.pointer (some ⟨g, 0, none⟩)] ∧ RB own w W ids.length jds.length g b1 b2 ∧ (BgI own0 w pR pC ids jds own W ∧ (own S = 0 ∧ ShB W S pR pC pS pN)) ∧ AxR W own pR pC ids jds
end Go.Proofs.YtoicnghjjgkebaaGreatDoor
