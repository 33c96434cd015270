/-
  The law CalcTyped tells true, if its 'awake' does. Conditions: the plan lies in memory; at most 1048576 things typed.
-/
import Derived.Test.YtoicnghjjgkebaaGreatDoorN31
set_option linter.unusedSectionVars false
set_option linter.unusedSimpArgs false
set_option linter.unusedVariables false
set_option linter.unnecessarySimpa false
namespace Go.Proofs.YtoicnghjjgkebaaGreatDoor
open Go.RowKit Go.Shelf
attribute [local go_sem] Oper.semAt_some
def TrueP (w : World) (e : Ending) (w' : World) : Prop := e = .returned (.bool true) ∧ Below w.heap.size w w'
theorem Tryz.infoCv : (Tryz.prog.info? 44).map (fun i => (i.zero, i.size, i.bytes)) = some (some (.agg cvZ.toArray), 33, 288) := by kernel_rfl
theorem bslice_cv (w : World) (x1 x2 x3 x4 k vk vm ve vf : Int) (vt : ByteArray) (vb : Bool) (t : Array Value) (f : Nf) (A : Option Addr) (l : List Nd) (c : Nat) : (Instr.buildSlice 22 1 #[(0, .agg (CV.cs ⟨((x1, x2), (x3, x4)), k, ⟨vk, vm, ve, vt, vb, vf⟩, f, A, l, c⟩).toArray)]).run Tryz.prog w = .ok (.slice (some ⟨w.heap.size, 0, none⟩) 1 1) (w.alloc (.cells (CV.cs ⟨((x1, x2), (x3, x4)), k, ⟨vk, vm, ve, vt, vb, vf⟩, f, A, l, c⟩).toArray 44)) := by kernel_rfl
theorem wpList_bslice_cv {ops : Array Oper} {rest : List Oper} {o : Oper} {a : Act} {w : World} {Q : Exit → Act → World → Prop} (hg : o.guard = none) (X : Operand) (ho : o.op = .buildSlice 22 1 #[(0, X)]) (u : CV) (hA : a.eval X = .agg u.cs.toArray)
    (h : wpList Tryz.prog ops Q rest (a.put o.dst (.slice (some ⟨w.heap.size, 0, none⟩) 1 1)) (w.alloc (.cells u.cs.toArray 44))) : wpList Tryz.prog ops Q (o :: rest) a w := by
  obtain ⟨⟨⟨x1, x2⟩, x3, x4⟩, k, ⟨vk, vm, ve, vt, vb, vf⟩, f, A, l, c⟩ := u
  refine Great.wpList_runTo hg o.dst rfl _ _ ?_ h
  simp only [execOp, ho, List.map_toArray, List.map_cons, List.map_nil, hA, Sem.run_bind, Sem.run_pure, bslice_cv (t := #[]), Result.andThen_ok]
/-- Those that are no formulas. -/
def flt (us : List CV) : List CV := us.filter fun u => decide (u.k ≠ 2)
theorem flt_take {us : List CV} {i : Nat} (h : i < us.length) : flt (us.take (i + 1)) = if us[i].k ≠ 2 then flt (us.take i) ++ [us[i]] else flt (us.take i) := by
  unfold flt
  rw [List.take_succ_eq_append_getElem h, List.filter_append]
  by_cases e : us[i].k = 2
  · simp [e]
  · simp [e]
/-- A row of things in the plan's field, while it grows. -/
structure Rq (w Vs : World) (b3 : Nat) (F : Value → Array Value) (v : Value) (us : List CV) (W : World) : Prop where
  bx : Blk W b3 24 (F v)
  row : W.ownsRow Vs.heap.size 44 33 v us.length (us.flatMap CV.cs)
  ch : Chg (fun k => k ≠ b3) Vs W
  bw : Below w.heap.size w W
theorem Rq.below {w Vs : World} {b3 : Nat} {F : Value → Array Value} {v : Value} {us : List CV} {W W' : World} (h : Rq w Vs b3 F v us W) (b : Below W.heap.size W W') : Rq w Vs b3 F v us W' := ⟨h.bx.kept (b.block _ h.bx.lt), ownsRow_kept h.row (fun g _ hg => b.block g hg), h.ch.next b, h.bw.trans (b.mono h.bw.size)⟩
theorem Rq.step {w Vs : World} {b3 j : Nat} {F : Value → Array Value} {v v' : Value} {us us' : List CV} {W W1 w' : World} (h : Rq w Vs b3 F v us W) (hj : ∀ v v', (F v).setIfInBounds j v' = F v') (hw : w.heap.size ≤ Vs.heap.size) (h8 : w.heap.size ≤ b3) (b1 : Below W.heap.size W W1) (g : W1.grownBy w' v.ownBlock) (r' : w'.ownsRow Vs.heap.size 44 33 v' us'.length (us'.flatMap CV.cs)) :
    Blk w' b3 24 (F v) ∧ Rq w Vs b3 F v' us' (w'.setCell ⟨b3, j, none⟩ v') := by
  have hb := ownsRow_base h.row
  have hne : v.ownBlock ≠ some b3 := fun e => by
    rcases h.row.2 with ⟨hv, -⟩ | ⟨g', cap, cur, hv, -, hg', -⟩
    · rw [hv] at e; cases e
    · rw [hv] at e
      cases e
      have h2 := h.bx
      unfold Blk at h2
      rw [hg'] at h2
      cases h2
  have hx1 := h.bx.kept (b1.block _ h.bx.lt)
  have hx : Blk w' b3 24 (F v) := hx1.kept (g.block _ hx1.lt (fun e => hne e.symm))
  refine ⟨hx, ⟨by rw [← hj v v']; exact hx.store j v', ?_, ?_, ?_⟩⟩
  · exact row_kept r' hx (by decide) (fun k hk hn => Below.heap_setCell _ _ _ _ hn)
  · exact ((h.ch.next b1).grew g (fun k e hk => by have := hb k e; omega)).set (fun _ e => e rfl) v'
  · exact (below_grew (h.bw.trans (b1.mono h.bw.size)) g (fun k e => Nat.le_trans hw (hb k e))).setCell h8 v'
/-- What each round of the law's last loop leaves. -/
structure LwI (w : World) (Rs Mv Mn Bd M5 : Nat) (pv : List (Id × Value)) (gL b7 : Nat) (Lc : List LC) (B7 : Array Value) (W : World) : Prop where
  ra : ResAt W Rs Mv Mn Bd M5 pv 1
  L : Blk W gL 42 (Lc.flatMap LC.cs).toArray
  b7 : Blk W b7 49 B7
  bw : Below w.heap.size w W
theorem LwI.below {w : World} {Rs Mv Mn Bd M5 : Nat} {pv : List (Id × Value)} {gL b7 : Nat} {Lc : List LC} {B7 : Array Value} {W W' : World} (h : LwI w Rs Mv Mn Bd M5 pv gL b7 Lc B7 W) (b : Below W.heap.size W W') : LwI w Rs Mv Mn Bd M5 pv gL b7 Lc B7 W' := ⟨h.ra.below b, h.L.kept (b.block _ h.L.lt), h.b7.kept (b.block _ h.b7.lt), h.bw.trans (b.mono h.bw.size)⟩
theorem all_bu {w : World} {own : Tags} {S pR pC pS pN gL R C : Nat} {m : Option Nat} {kvs : List (Cel × Val)} {Lc : List LC} {W : World} (h : BuE w own S pR pC pS pN gL R C m kvs Lc W) (lib : Value) (hl : lib.oneCell' = true) : Calls Tryz.prog 6 #[.pointer (some ⟨S, 0, none⟩), lib] W (RunP own (PVP (idsN R) (idsN C) kvs) W) :=
  all_of own _ S lib hl W fun fi ca V b => run_c own _ S pR pC pS pN ((idsN R).length) ((idsN C).length) _ fi ca V (h.sh.kept (b.block _ h.sh.lt))
    (begin_c own V S pR pC pS pN (idsN R) (idsN C) m kvs h.le ⟨h.aR.keep (Same.below b), h.aC.keep (Same.below b), fun k hk => Nat.lt_of_lt_of_le (h.fr k hk).1 b.size, fun _ _ => rfl, Chg.refl _ _⟩ ⟨h.ow.2.1, h.sh.kept (b.block _ h.sh.lt)⟩ ⟨h.ow.1, h.st.1.kept (b.block _ h.st.1.lt)⟩ ⟨h.ow.2.2.2, (h.st.below b).2⟩)
theorem BuE.below {w : World} {own : Tags} {S pR pC pS pN gL R C : Nat} {m : Option Nat} {kvs : List (Cel × Val)} {Lc : List LC} {W W' : World} (h : BuE w own S pR pC pS pN gL R C m kvs Lc W) (b : Below W.heap.size W W') : BuE w own S pR pC pS pN gL R C m kvs Lc W' :=
  ⟨h.bw.trans (b.mono h.bw.size), h.sh.kept (b.block _ h.sh.lt), h.st.below b, h.aR.keep (Same.below b), h.aC.keep (Same.below b), h.L.kept (b.block _ h.L.lt), h.ow, fun k hk => ⟨Nat.lt_of_lt_of_le (h.fr k hk).1 b.size, (h.fr k hk).2⟩, h.ag, h.le⟩
set_option maxRecDepth 100000 in
set_option maxHeartbeats 8000000 in
theorem law_c (hA : ∀ W, Calls Tryz.prog 4 #[] W (TrueP W)) (a b : Nat) (ha : a < 256) (hb : b < 256) (A : Option Addr) (c : Nat) (us : List CV) (d : Nat) (w : World) (hR : ManyR CV.cs 33 w A us) (hk : ∀ u ∈ us, u.Ok d w) (hn : us.length ≤ 1048576) :
    Calls Tryz.prog 3 #[.agg #[.int .u8 a, .int .u8 b, .slice A us.length c]] w (TrueP w) := by
  have hb1 : Below w.heap.size w (w.alloc (.cells #[.int .u8 a, .int .u8 b, .slice A us.length c] 24)) := (Below.refl _ _).alloc (Nat.le_refl _) _
  have X1 := Lib.hid (Blk.new w 24 #[.int .u8 a, .int .u8 b, .slice A us.length c])
  have HB := Lib.hid hb1
  have HU := Lib.hid (And.intro hR hk)
  have HAW := Lib.hid hA
  have HAB := Lib.hid (And.intro ha hb)
  obtain ⟨n, hn2⟩ : ∃ n, us.length = n := ⟨_, rfl⟩
  rw [hn2] at X1 HB ⊢ hn
  have HN := Lib.hid (And.intro hn2 hn)
  obtain ⟨i0, hi, hz0, hz1, hz2⟩ := info_parts Tryz.infoCv
  clear hR hk hn hn2 hb1 hA ha hb
  go_enter Tryz.func3, Tryz.ntmps3
  go_upto_region 1 with fail
  generalize w.alloc _ = V at *
  go_wp2_with fail
  refine (HAW.out V).mono ?_
  rintro _ W1 ⟨rfl, b1⟩
  have X1b := Lib.hid (X1.out.kept (b1.block _ X1.out.lt))
  have HB1 := Lib.hid (HB.out.trans (b1.mono HB.out.size))
  have c0 := X1b.out.cell 0
  have c1 := X1b.out.cell 1
  have c2 := X1b.out.cell 2
  simp only [List.getElem?_toArray, List.getElem?_cons_zero, List.getElem?_cons_succ] at c0 c1 c2
  clear X1 HB b1 HAW
  go_upto_region 4 with fail
  have hbl : Below W1.heap.size W1 (W1.alloc (.cells #[.int .u8 a, .int .u8 b, .slice A n c] 24)) := (Below.refl _ _).alloc (Nat.le_refl _) _
  have hx3 := Blk.new W1 24 #[.int .u8 a, .int .u8 b, .slice A n c]
  have hx1 := X1b.out.kept (hbl.block _ X1b.out.lt)
  have hne : w.heap.size ≠ W1.heap.size := by have := X1b.out.lt; omega
  have HW1 := Lib.hid HB1.out.size
  generalize W1.alloc (.cells #[.int .u8 a, .int .u8 b, .slice A n c] 24) = V2 at *
  obtain ⟨b3, hb3⟩ : ∃ b3, b3 = W1.heap.size := ⟨_, rfl⟩
  rw [← hb3] at hx3 hne ⊢
  have HNB := Lib.hid (show w.heap.size ≤ b3 by have := HW1.out; omega)
  clear hb3
  have d2 := hx3.cell 2
  have f2 := hx3.frozen 2
  have hx31 := hx3.store 2 (.slice none 0 0)
  have hx11 := hx1.kept (w' := V2.setCell ⟨b3, 2, none⟩ (.slice none 0 0)) (Below.heap_setCell _ _ _ _ hne)
  have hbv : Below w.heap.size w (V2.setCell ⟨b3, 2, none⟩ (.slice none 0 0)) := (HB1.out.trans (hbl.mono HW1.out)).setCell HNB.out _
  have c2 := hx11.cell 2
  simp only [List.getElem?_toArray, List.getElem?_cons_zero, List.getElem?_cons_succ] at d2 c2
  go_upto_region 5 with fail
  generalize V2.setCell ⟨b3, 2, none⟩ (.slice none 0 0) = V3 at *
  have R0 := Lib.hid (show Rq w V3 b3 (fun v => #[.int .u8 a, .int .u8 b, v]) (.slice none 0 0) (flt (us.take 0)) V3 from ⟨hx31, World.ownsRow_nil _ _ _ _, Chg.refl _ _, hbv⟩)
  have HWV := Lib.hid hbv.size
  clear hbl hx3 hx1 hne hx31 hbv d2 f2 HB1 X1b c0 c1 HW1 hx11
  go_wp2_with fail
  clear c2
  go_loopw [26] (fun iv wx => ∃ i : Nat, i ≤ n ∧ iv = .int .i64 i ∧ ∃ v, Hid (Rq w V3 b3 (fun v => #[.int .u8 a, .int .u8 b, v]) v (flt (us.take i)) wx)) (fun iv _ => n - (intOf iv).toNat)
  case atStart => exact ⟨0, Nat.zero_le _, rfl, _, R0⟩
  case round =>
    clear R0
    obtain ⟨i, hi2, rfl, v, hr⟩ := hrel
    by_cases hlt : i < n
    · have hlt2 : (i : Int) < (n : Int) := by omega
      have h0i2 : (0 : Int) ≤ (i : Int) := by omega
      have hul : i < us.length := by rw [HN.out.1]; exact hlt
      obtain ⟨bA, oA, hAA, hAl, hAc⟩ := (HU.out.1.next hr.out.bw) (fun e => by rw [e] at hul; simp at hul)
      have hcs : wr.rangeAt bA (oA + i * 33) us[i].cs := fun j v hj => hAc i hul j v hj
      have HFT := Lib.hid (flt_take hul)
      generalize us[i] = u at *
      have HCS := Lib.hid hcs
      have HCL := Lib.hid u.len
      have HCO := Lib.hid u.ones
      have hlz : Hid (cvZ.length = 33) := Lib.hid rfl
      have bl : Below wr.heap.size wr (wr.alloc (.cells u.cs.toArray 44)) := (Below.refl _ _).alloc (Nat.le_refl _) _
      have HM := Lib.hid (hr.out.below bl)
      have HX := Lib.hid (Blk.new wr 44 u.cs.toArray)
      have HAA := Lib.hid hAA
      have HLT := Lib.hid hlt
      have hi9 : (i : Int) ≤ 1048576 := by have := HN.out.2; omega
      clear bl hcs hAc hAl hul hi2 hlt hr
      rw [HAA.out]
      go_upto_region 8 with (first | refine ld_step cv_row rfl _ rfl _ _ rfl HCL.out HCS.out ?_ | refine st_new cv_row rfl _ _ rfl (cs := u.cs) (z := cvZ) rfl rfl HCL.out hlz.out HCO.out ?_)
      generalize hV5 : wr.alloc (.cells u.cs.toArray 44) = V5 at *
      generalize hbx : wr.heap.size = bx at *
      clear hV5 hbx HCS hlz hlt2
      have c4 : V5.cell? ⟨bx, 4, none⟩ = some (.int .i64 u.k) := HX.out.cell 4
      by_cases hk2 : u.k = 2
      · have hq : flt (us.take (i + 1)) = flt (us.take i) := by rw [HFT.out, if_neg (by rw [hk2]; simp)]
        rw [hk2] at c4
        go_wp2_with fail
        exact ⟨⟨i + 1, HLT.out, by simp, v, by rw [hq]; exact HM⟩, by have := HLT.out; simp [intOf]; omega⟩
      · have hq : flt (us.take (i + 1)) = flt (us.take i) ++ [u] := by rw [HFT.out, if_pos hk2]
        have HQ2 := Lib.hid hq
        obtain ⟨A9, c9, rfl, -⟩ := ownsRow_shape HM.out.row
        have d2 := HM.out.bx.cell 2
        have lx := Lib.hid (show V5.rangeAt bx 0 u.cs from (Seg.of HX.out).lies)
        have bl : Below V5.heap.size V5 (V5.alloc (.cells u.cs.toArray 44)) := (Below.refl _ _).alloc (Nat.le_refl _) _
        have HBL := Lib.hid bl
        have HB9 := Lib.hid (HM.out.bw.trans (bl.mono HM.out.bw.size))
        have HR9 := Lib.hid (ownsRow_kept HM.out.row (fun g _ hg => bl.block g hg))
        have HLE := Lib.hid (show V3.heap.size ≤ (V5.alloc (.cells u.cs.toArray 44)).heap.size from Nat.le_trans HM.out.ch.size bl.size)
        have HLN : Hid ((flt (us.take i)).length < 100000000) := Lib.hid (by
          have h1 := List.length_filter_le (fun u : CV => decide (u.k ≠ 2)) (us.take i)
          have h2 := List.length_take_le i us
          have h3 := HLT.out
          have h4 := HN.out.2
          unfold flt
          omega)
        simp only [List.getElem?_toArray, List.getElem?_cons_zero, List.getElem?_cons_succ] at d2
        clear bl hq
        go_wp2_with (first | refine ld_step cv_row rfl _ rfl _ _ rfl HCL.out lx.out ?_ | refine wpList_bslice_cv rfl _ rfl u rfl ?_ | (refine app_pure (w0 := w) (f := CV.cs) rfl _ _ _ rfl i0 _ 288 Tryz.underlying22 hi hz0 hz1 hz2 rfl (by omega) HB9.out HWV.out HLE.out HR9.out rfl V5.heap.size u rfl (Blk.new V5 _ _) HCL.out HCO.out HLN.out (by omega) (fun v' w' b' r' g' => ?_); rw [← HQ2.out] at r'; obtain ⟨q1, q2⟩ := HM.out.step (j := 2) (fun _ _ => rfl) HWV.out HNB.out HBL.out g' r'; obtain ⟨A', c', rfl, -⟩ := ownsRow_shape r'; have d1 := q1.cell 2; have f1 := q1.frozen 2; simp only [List.getElem?_toArray, List.getElem?_cons_zero, List.getElem?_cons_succ] at d1; have HQ := Lib.hid q2; clear r' b' g' q1 q2 d2 c4 lx))
        exact ⟨⟨i + 1, HLT.out, by simp, _, HQ⟩, by have := HLT.out; simp [intOf]; omega⟩
    · have hlt2 : ¬ (i : Int) < (n : Int) := by omega
      obtain rfl : i = n := by omega
      have hr2 := hr.out
      rw [List.take_of_length_le (by have := HN.out.1; omega)] at hr2
      obtain ⟨A9, c9, rfl, -⟩ := ownsRow_shape hr2.row
      have d0 := hr2.bx.cell 0
      have d1 := hr2.bx.cell 1
      have d2 := hr2.bx.cell 2
      simp only [List.getElem?_toArray, List.getElem?_cons_zero, List.getElem?_cons_succ] at d0 d1 d2
      have HBW := Lib.hid hr2.bw
      have HBD := Lib.hid (build_c a b HAB.out.1 HAB.out.2 A9 c9 (flt us) d wr (manyR_of_row CV.len (by decide) hr2.row).2 (fun u hu => by
        have h := List.mem_filter.1 hu
        exact ⟨of_decide_eq_true h.2, (HU.out.2 u h.1).next hr2.bw⟩) (by
        have h1 := List.length_filter_le (fun u : CV => decide (u.k ≠ 2)) us
        have h2 := HN.out.1
        have h3 := HN.out.2
        unfold flt maxLen
        omega))
      clear hr hr2 hlt hlt2 hi2
      obtain ⟨R, hR⟩ : ∃ R, R = a % 7 := ⟨_, rfl⟩
      obtain ⟨C, hC⟩ : ∃ C, C = b % 7 := ⟨_, rfl⟩
      rw [← hR, ← hC] at HBD
      have HRC := Lib.hid (show R ≤ 6 ∧ C ≤ 6 by omega)
      clear hR hC
      go_wp2_with fail
      refine HBD.out.mono ?_
      clear HBD d0 d1 d2
      rintro e W5 (⟨rfl, b5⟩ | ⟨own, S, pR, pC, pS, pN, gL, m, kvs, Lc, Ar, cr, Ac, cc, rfl, hE⟩)
      · have HB5 := Lib.hid ((HBW.out.trans (b5.mono HBW.out.size)).alloc (Nat.le_trans HBW.out.size b5.size) (.cells #[.slice none 0 0, .slice none 0 0, .slice none 0 0] 49))
        clear b5
        go_wp2_with fail
        go_ret
        exact ⟨rfl, HB5.out⟩
      · obtain ⟨RC, hRC⟩ : ∃ RC, RC = R * C := ⟨_, rfl⟩
        rw [← hRC]
        have HRCE := Lib.hid hRC
        have h36 : RC ≤ 36 := by rw [hRC]; exact Nat.le_trans (Nat.mul_le_mul HRC.out.1 HRC.out.2) (by decide)
        clear hRC
        have bl : Below W5.heap.size W5 (W5.alloc (.cells #[.slice Ar R cr, .slice Ac C cc, .slice (some ⟨gL, 0, none⟩) RC RC] 49)) := (Below.refl _ _).alloc (Nat.le_refl _) _
        have HE := Lib.hid (hE.below bl)
        have HX7 := Lib.hid (Blk.new W5 49 #[.slice Ar R cr, .slice Ac C cc, .slice (some ⟨gL, 0, none⟩) RC RC])
        have HO7 := Lib.hid (show own W5.heap.size = 0 from by
          rcases Nat.eq_zero_or_pos (own W5.heap.size) with h | h
          · exact h
          · have := (hE.fr W5.heap.size (by omega)).1; omega)
        have HWR := Lib.hid HBW.out.size
        clear hE bl
        go_upto_region 12 with fail
        generalize W5.alloc (.cells #[.slice Ar R cr, .slice Ac C cc, .slice (some ⟨gL, 0, none⟩) RC RC] 49) = W6 at *
        generalize W5.heap.size = b7 at *
        have HALL := Lib.hid (all_bu HE.out .nilIface rfl)
        go_wp2_with fail
        refine HALL.out.mono ?_
        rintro _ W7 ⟨Rs, Mv, Mn, Bd, M5, pv, rfl, hra, ⟨xs, hxs, rfl⟩, hc7⟩
        have hL7 := HE.out.L.kept (hc7.block _ HE.out.L.lt HE.out.ow.2.2.1)
        have hX7 := HX7.out.kept (hc7.block _ HX7.out.lt HO7.out)
        have hB7 : Below w.heap.size w W7 := by
          have h6 := HBW.out.trans (HE.out.bw.mono HBW.out.size)
          refine ⟨hc7.os.trans h6.os, hc7.tape.trans h6.tape, hc7.output.trans h6.output, Nat.le_trans h6.size hc7.size, fun k hk => (hc7.block k (Nat.lt_of_lt_of_le hk h6.size) ?_).trans (h6.block k hk)⟩
          rcases Nat.eq_zero_or_pos (own k) with h | h
          · exact h
          · have h1 := (HE.out.fr k (by omega)).2
            have h2 := HWR.out
            omega
        have HLW := Lib.hid (show LwI w Rs Mv Mn Bd M5 (pvs (idsN R) (idsN C) xs) gL b7 Lc #[.slice Ar R cr, .slice Ac C cc, .slice (some ⟨gL, 0, none⟩) RC RC] W7 from ⟨hra, hL7, hX7, hB7⟩)
        have HSH := Lib.hid (fun i k hi hk => HE.out.ag.shows hxs i k hi hk)
        have HLEN := Lib.hid (show Lc.length = RC by have h := HE.out.ag.len; rw [List.length_map] at h; rw [h, HRCE.out])
        have e2 := hX7.cell 2
        simp only [List.getElem?_toArray, List.getElem?_cons_zero, List.getElem?_cons_succ] at e2
        clear hra hL7 hX7 hB7 hxs hc7 HE HX7 HO7 HALL HWR HBW
        generalize pvs (idsN R) (idsN C) xs = pv at *
        go_wp2_with fail
        clear e2
        go_loopw [54] (fun iv wx => ∃ j : Nat, j ≤ RC ∧ iv = .int .i64 j ∧ Hid (LwI w Rs Mv Mn Bd M5 pv gL b7 Lc #[.slice Ar R cr, .slice Ac C cc, .slice (some ⟨gL, 0, none⟩) RC RC] wx)) (fun iv _ => RC - (intOf iv).toNat)
        case atStart => exact ⟨0, Nat.zero_le _, rfl, HLW⟩
        case round =>
          clear HLW
          obtain ⟨j, hj, rfl, hL⟩ := hrel
          by_cases hlt : j < RC
          · have hlt2 : (j : Int) < (RC : Int) := by omega
            have h0j : (0 : Int) ≤ (j : Int) := by omega
            have hC0 : 0 < C := by
              rcases Nat.eq_zero_or_pos C with h | h
              · rw [HRCE.out, h] at hlt; simp at hlt
              · exact h
            obtain ⟨ii, hii⟩ : ∃ ii, ii = j / C := ⟨_, rfl⟩
            obtain ⟨kk, hkk⟩ : ∃ kk, kk = j % C := ⟨_, rfl⟩
            have hiR : ii < R := by rw [hii]; exact Nat.div_lt_of_lt_mul (by rw [Nat.mul_comm, ← HRCE.out]; exact hlt)
            have hkC : kk < C := by rw [hkk]; exact Nat.mod_lt _ hC0
            have hjk : ii * C + kk = j := by rw [hii, hkk, Nat.mul_comm]; exact Nat.div_add_mod j C
            have hquo : (j : Int) / (C : Int) = (ii : Int) := by rw [hii]; simp
            have hrem : (j : Int) % (C : Int) = (kk : Int) := by rw [hkk]; simp
            have hjL : j < Lc.length := by rw [HLEN.out]; exact hlt
            obtain ⟨t, v, hv1, hv2⟩ := HSH.out ii kk hiR hkC
            rw [hjk, List.getElem?_map, List.getElem?_eq_getElem hjL] at hv1
            have hcs := seg_el (f := LC.cs) (k := 29) LC.len (Seg.of hL.out.L) (List.getElem?_eq_getElem hjL)
            generalize Lc[j] = e at *
            obtain ⟨ek, ev, eA, ec⟩ := e
            obtain ⟨rfl, rfl⟩ : ek = t ∧ ev = v := by simpa [LC.kv] using hv1
            obtain ⟨vk, vm, ve, vt, vb, vf⟩ := ev
            have HV2 := Lib.hid hv2
            have HCS := Lib.hid hcs
            have HCL := Lib.hid (LC.len ⟨ek, ⟨vk, vm, ve, vt, vb, vf⟩, eA, ec⟩)
            have HCO := Lib.hid (LC.ones ⟨ek, ⟨vk, vm, ve, vt, vb, vf⟩, eA, ec⟩)
            have hlz : Hid (ctZ.length = 29) := Lib.hid rfl
            have bl : Below wr.heap.size wr (wr.alloc (.cells (LC.cs ⟨ek, ⟨vk, vm, ve, vt, vb, vf⟩, eA, ec⟩).toArray 42)) := (Below.refl _ _).alloc (Nat.le_refl _) _
            have HM := Lib.hid (hL.out.below bl)
            have HX := Lib.hid (Blk.new wr 42 (LC.cs ⟨ek, ⟨vk, vm, ve, vt, vb, vf⟩, eA, ec⟩).toArray)
            have HLT := Lib.hid hlt
            have hC1 : (0 : Int) < (C : Int) := by omega
            have hj36 : (j : Int) ≤ 36 := by omega
            have hii0 : (0 : Int) ≤ (ii : Int) := by omega
            have hii6 : (ii : Int) ≤ 6 := by have := HRC.out.1; omega
            have hkk0 : (0 : Int) ≤ (kk : Int) := by omega
            have hkk6 : (kk : Int) ≤ 6 := by have := HRC.out.2; omega
            clear hii hkk hiR hkC hjk hjL hv1 hv2 hcs bl hL hj hlt hC0
            go_upto_region 18 with (first | refine ld_step cont_row rfl _ rfl _ _ rfl HCL.out HCS.out ?_ | refine st_new cont_row rfl _ _ rfl (cs := (LC.cs ⟨ek, ⟨vk, vm, ve, vt, vb, vf⟩, eA, ec⟩)) (z := ctZ) rfl rfl HCL.out hlz.out HCO.out ?_)
            generalize hV5 : wr.alloc (.cells (LC.cs ⟨ek, ⟨vk, vm, ve, vt, vb, vf⟩, eA, ec⟩).toArray 42) = V5 at *
            generalize hbx : wr.heap.size = bx at *
            clear hV5 hbx HCS HCL HCO hlz
            have C18 : AllCells V5.drew [(⟨b7, 1, none⟩, .slice Ac C cc)] := ⟨HM.out.b7.cell 1, trivial⟩
            simp only [Act.put, List.setIfInBounds_toArray, List.set_cons_succ, List.set_cons_zero]
            refine rfree [0, 1, 2, 3, 4, 5, 6, 7, 8, 9, 10, 11] 0 (by kernel_rfl) (fun _ _ _ _ _ h => h) C18 ?_
            intro hne hu; try simp only [AllCells] at hu
            simp only [pick, pk]
            repeat (go_big_quiet_step (fail))
            refine wpQuiet_nil ?_; clear hne hu
            refine ⟨by kernel_rfl, ?_⟩
            clear C18
            have HM2 := Lib.hid (HM.out.below (Below.refl _ V5).drew)
            have HX2 := Lib.hid (show Blk V5.drew bx _ _ from HX.out.kept rfl)
            have HOW := Lib.hid (rowner_c V5.drew Rs Mv Mn Bd M5 pv 1 ii kk HM2.out.ra)
            clear HM HX
            generalize V5.drew = V6 at *
            go_wp2_with fail
            refine HOW.out.mono ?_
            rintro _ W8 ⟨rfl, b8⟩
            have HM3 := Lib.hid (HM2.out.below b8)
            have HX3 := Lib.hid (HX2.out.kept (b8.block _ HX2.out.lt))
            have HAR := Lib.hid (rarray_c W8 Rs Mv Mn Bd M5 pv 1 ii kk (HM2.out.ra.below b8))
            clear b8 HOW HM2 HX2
            go_wp2_with fail
            refine HAR.out.mono ?_
            rintro _ W9 ⟨rfl, b9⟩
            have bl : Below W9.heap.size W9 (W9.alloc (.cells #[.int .i64 0, .int .i64 0, .slice none 0 0] 58)) := (Below.refl _ _).alloc (Nat.le_refl _) _
            have HM4 := Lib.hid ((HM3.out.below b9).below bl)
            have HX4 := Lib.hid ((HX3.out.kept (b9.block _ HX3.out.lt)).kept (bl.block _ (Nat.lt_of_lt_of_le HX3.out.lt b9.size)))
            clear b9 bl HAR HM3 HX3
            go_upto_region 21 with fail
            generalize W9.alloc (.cells #[.int .i64 0, .int .i64 0, .slice none 0 0] 58) = V7 at *
            have C21 : AllCells V7.drew [(⟨bx, 1, none⟩, .int .i64 vk), (⟨bx, 2, none⟩, .int .i64 vm), (⟨bx, 3, none⟩, .int .i64 ve), (⟨bx, 4, none⟩, .string vt), (⟨bx, 5, none⟩, .bool vb), (⟨bx, 6, none⟩, .int .i64 vf)] := ⟨HX4.out.cell 1, HX4.out.cell 2, HX4.out.cell 3, HX4.out.cell 4, HX4.out.cell 5, HX4.out.cell 6, trivial⟩
            have HRV := Lib.hid (show Calls Tryz.prog 9 #[.pointer (some ⟨Rs, 0, none⟩), .int .i64 ii, .int .i64 kk] V7.drew (fun e w' => e = .returned (.agg #[.int .i64 vk, .int .i64 vm, .int .i64 ve, .string vt, .bool vb, .int .i64 vf]) ∧ Below V7.drew.heap.size V7.drew w') from by
              rcases HV2.out with h | ⟨h, hz⟩
              · exact rvalue_some _ Rs Mv Mn Bd M5 pv 1 ii kk _ (HM4.out.ra.below (Below.refl _ V7).drew) h
              · have h0 := rvalue_none _ Rs Mv Mn Bd M5 pv 1 ii kk (HM4.out.ra.below (Below.refl _ V7).drew) h
                rw [← hz] at h0
                exact h0)
            have hveq : veq ⟨vk, vm, ve, vt, vb, vf⟩ ⟨vk, vm, ve, vt, vb, vf⟩ = true := veq_true.2 rfl
            have HM5 := Lib.hid (HM4.out.below (Below.refl _ V7).drew)
            have HX5 := Lib.hid (show Blk V7.drew bx _ _ from HX4.out.kept rfl)
            refine rfree [0, 1, 2, 3, 4, 5, 6, 7, 9] 12 (by kernel_rfl) (fun _ _ _ _ _ h => h) C21 ?_
            intro hne hu; try simp only [AllCells] at hu
            simp only [pick, pk]
            repeat (go_big_quiet_step (fail))
            refine wpQuiet_nil ?_; clear hne hu
            clear HM4 HX4
            obtain ⟨k1, k2, k3, k4, k5, k6, -⟩ := id C21
            refine anyN_twoL 8 10 (by kernel_rfl) ?_ ?_ <;> simp only [pk]
            · go_wp2_with fail
              refine HRV.out.mono ?_
              rintro _ W10 ⟨rfl, b10⟩
              have C22 := AllCells.below C21 b10
              have HM6 := Lib.hid (HM5.out.below b10)
              have HCI := Lib.hid (rcircle_c W10 Rs Mv Mn Bd M5 pv 1 ii kk (HM5.out.ra.below b10))
              clear b10 HRV HM5 HX5 k1 k2 k3 k4 k5 k6 C21
              obtain ⟨k1, k2, k3, k4, k5, k6, -⟩ := id C22
              go_wp2_with fail
              first | refine And.intro (fun _ => C22) ?_ | refine And.intro C22 ?_ | skip
              refine anyN_oneL 10 (by kernel_rfl) ?_; simp only [pk]
              go_wp2_with fail
              first | refine And.intro (fun _ => C22) ?_ | refine And.intro C22 ?_ | skip
              clear k1 k2 k3 k4 k5 k6
              refine anyN_oneL 11 (by kernel_rfl) ?_; simp only [pk]
              go_wp2_with fail
              first | refine And.intro (fun _ => C22) ?_ | refine And.intro C22 ?_ | skip
              refine rmore [12, 13, 14, 15, 16] 4 (by kernel_rfl) (fun _ _ _ _ _ h => h) C22 ?_
              intro hne hu; try simp only [AllCells] at hu
              simp only [pick, pk]
              repeat (go_big_quiet_step (fail))
              refine wpQuiet_nil ?_; clear hne hu
              refine anyN_oneL 17 (by kernel_rfl) ?_; simp only [pk]
              go_wp2_with fail
              refine HCI.out.mono ?_
              rintro _ W11 ⟨rfl, b11⟩
              have C23 := AllCells.below C22 b11
              have HM7 := Lib.hid (HM6.out.below b11)
              clear b11 HCI HM6 C22
              go_wp2_with fail
              first | refine And.intro (fun _ => C23) ?_ | refine And.intro C23 ?_ | skip
              refine rmore [18, 19, 20] 0 (by kernel_rfl) (fun _ _ _ _ _ h => h) C23 ?_
              intro hne hu; try simp only [AllCells] at hu
              simp only [pick, pk]
              repeat (go_big_quiet_step (fail))
              refine wpQuiet_nil ?_; clear hne hu
              refine ⟨by kernel_rfl, ?_⟩
              clear C23 hveq
              go_wp2_with fail
              exact ⟨⟨j + 1, HLT.out, by simp, HM7⟩, by have := HLT.out; simp [intOf]; omega⟩
            · go_wp2_with fail
              first | refine And.intro (fun _ => C21) ?_ | refine And.intro C21 ?_ | skip
              refine anyN_oneL 8 (by kernel_rfl) ?_; simp only [pk]
              go_wp2_with fail
              refine HRV.out.mono ?_
              rintro _ W10 ⟨rfl, b10⟩
              have C22 := AllCells.below C21 b10
              have HM6 := Lib.hid (HM5.out.below b10)
              have HCI := Lib.hid (rcircle_c W10 Rs Mv Mn Bd M5 pv 1 ii kk (HM5.out.ra.below b10))
              clear b10 HRV HM5 HX5 k1 k2 k3 k4 k5 k6 C21
              go_wp2_with fail
              first | refine And.intro (fun _ => C22) ?_ | refine And.intro C22 ?_ | skip
              refine anyN_oneL 11 (by kernel_rfl) ?_; simp only [pk]
              go_wp2_with fail
              first | refine And.intro (fun _ => C22) ?_ | refine And.intro C22 ?_ | skip
              refine rmore [12, 13, 14, 15, 16] 4 (by kernel_rfl) (fun _ _ _ _ _ h => h) C22 ?_
              intro hne hu; try simp only [AllCells] at hu
              simp only [pick, pk]
              repeat (go_big_quiet_step (fail))
              refine wpQuiet_nil ?_; clear hne hu
              refine anyN_oneL 17 (by kernel_rfl) ?_; simp only [pk]
              go_wp2_with fail
              refine HCI.out.mono ?_
              rintro _ W11 ⟨rfl, b11⟩
              have C23 := AllCells.below C22 b11
              have HM7 := Lib.hid (HM6.out.below b11)
              clear b11 HCI HM6 C22
              go_wp2_with fail
              first | refine And.intro (fun _ => C23) ?_ | refine And.intro C23 ?_ | skip
              refine rmore [18, 19, 20] 0 (by kernel_rfl) (fun _ _ _ _ _ h => h) C23 ?_
              intro hne hu; try simp only [AllCells] at hu
              simp only [pick, pk]
              repeat (go_big_quiet_step (fail))
              refine wpQuiet_nil ?_; clear hne hu
              refine ⟨by kernel_rfl, ?_⟩
              clear C23 hveq
              go_wp2_with fail
              exact ⟨⟨j + 1, HLT.out, by simp, HM7⟩, by have := HLT.out; simp [intOf]; omega⟩
          · have hlt2 : ¬ (j : Int) < (RC : Int) := by omega
            have HPS := Lib.hid (passes_c wr Rs Mv Mn Bd M5 pv 1 hL.out.ra)
            go_wp2_with fail
            refine HPS.out.mono ?_
            rintro _ W9 ⟨rfl, b9⟩
            have HB9 := Lib.hid (hL.out.bw.trans (b9.mono hL.out.bw.size))
            clear b9 hL
            go_wp2_with fail
            go_ret
            exact ⟨rfl, HB9.out⟩
end Go.Proofs.YtoicnghjjgkebaaGreatDoor
