/-
  Build of a plan without formulas: its contract. Conditions: the things typed lie in memory, none of them a formula.
-/
import Derived.Test.YtoicnghjjgkebaaGreatDoorN30
set_option linter.unusedSectionVars false
set_option linter.unusedSimpArgs false
set_option linter.unusedVariables false
set_option linter.unnecessarySimpa false
namespace Go.Proofs.YtoicnghjjgkebaaGreatDoor
open Go.RowKit Go.Shelf
attribute [local go_sem] Oper.semAt_some
def cvZ : List Value := [.int .i64 0, .int .i64 0, .int .i64 0, .int .i64 0] ++ ctZ
theorem results_tct {fn : Func} {p q u : Tmp} {ty : TypeId} {P : Program} (h : fn.results = #[.tmp p, .cell q ty, .tmp u]) (tmps : Array Value) (w : World) (g : Nat) (t : TypeId) (cs : Array Value) (fr : Nat × Nat) (d : TypeDesc) (hd : (match d with | .struct _ | .array _ _ => true | _ => false) = true)
    (hp : tmps.getD q undef = .pointer (some ⟨g, 0, none⟩)) (hg : w.heap[g]? = some (.cells cs t fr))
    (hu : P.underlying ty = some d) (hi : (P.info? ty).map (·.size) = some cs.size) :
    (results fn tmps).run P w = .ok (.tuple #[tmps.getD p undef, .agg cs, tmps.getD u undef]) w := by
  have hl : (loadVar ty ⟨g, 0, none⟩).run P w = .ok (.agg cs) w := run_loadVar_row w g t ty cs fr d hg hu (by cases d <;> first | rfl | cases hd) hi
  have hp' : tmps[q]?.getD undef = .pointer (some ⟨g, 0, none⟩) := by simpa using hp
  simp [results, h, hp', asAddr, hl]
/-- A row of ids in a field of a box, while it grows. -/
structure Rw (w Vs : World) (b8 : Nat) (F : Value → Array Value) (v : Value) (i : Nat) (W : World) : Prop where
  bx : Blk W b8 49 (F v)
  row : W.ownsRow Vs.heap.size 27 2 v (idsN i).length ((idsN i).flatMap idf)
  ch : Chg (fun k => k ≠ b8) Vs W
  bw : Below w.heap.size w W
theorem Rw.step {w Vs : World} {b8 j i : Nat} {F : Value → Array Value} {v v' : Value} {W W1 w' : World} (h : Rw w Vs b8 F v i W) (hj : ∀ v v', (F v).setIfInBounds j v' = F v') (hw : w.heap.size ≤ Vs.heap.size) (h8 : w.heap.size ≤ b8) (b1 : Below W.heap.size W W1) (g : W1.grownBy w' v.ownBlock) (r' : w'.ownsRow Vs.heap.size 27 2 v' (idsN (i + 1)).length ((idsN (i + 1)).flatMap idf)) :
    Blk w' b8 49 (F v) ∧ Rw w Vs b8 F v' (i + 1) (w'.setCell ⟨b8, j, none⟩ v') := by
  have hb := ownsRow_base h.row
  have hne : v.ownBlock ≠ some b8 := fun e => by
    rcases h.row.2 with ⟨hv, -⟩ | ⟨g', cap, cur, hv, -, hg', -⟩
    · rw [hv] at e; cases e
    · rw [hv] at e
      cases e
      have h2 := h.bx
      unfold Blk at h2
      rw [hg'] at h2
      cases h2
  have hx1 := h.bx.kept (b1.block _ h.bx.lt)
  have hx : Blk w' b8 49 (F v) := hx1.kept (g.block _ hx1.lt (fun e => hne e.symm))
  refine ⟨hx, ⟨by rw [← hj v v']; exact hx.store j v', ?_, ?_, ?_⟩⟩
  · exact row_kept r' hx (by decide) (fun k hk hn => Below.heap_setCell _ _ _ _ hn)
  · exact ((h.ch.next b1).grew g (fun k e hk => by have := hb k e; omega)).set (fun _ e => e rfl) v'
  · exact (below_grew (h.bw.trans (b1.mono h.bw.size)) g (fun k e => Nat.le_trans hw (hb k e))).setCell h8 v'
theorem ownsRow_weak {W : World} {base base' k n : Nat} {e : TypeId} {v : Value} {xs : List Value} (h : W.ownsRow base e k v n xs) (hb : base' ≤ base) : W.ownsRow base' e k v n xs := ⟨h.1, h.2.imp id (fun ⟨g, cap, cur, hv, hg, r⟩ => ⟨g, cap, cur, hv, Nat.le_trans hb hg, r⟩)⟩
theorem bum_of {w W1 V2 V3 W : World} {own : Tags} {S pR pC pS pN R C RC b8 gL cr cc : Nat} {Ar Ac : Option Addr} {PL : Array Value} (hsh : ShB W1 S pR pC pS pN) (hst : StA W1 pS none []) (ho : own pS = 0 ∧ own S = 0 ∧ w.heap.size ≤ pS) (haR : AxisAt W1 own 1 pR (idsN R) (List.replicate (idsN R).length true)) (haC : AxisAt W1 own 2 pC (idsN C) (List.replicate (idsN C).length true)) (hfr : ∀ k, own k ≠ 0 → k < W1.heap.size ∧ w.heap.size ≤ k)
    (x1 : Blk W1 w.heap.size 24 PL) (x3 : Blk W1 (w.heap.size + 1) 49 #[.slice none 0 0, .slice none 0 0, .slice none 0 0]) (hw : Below w.heap.size w W1) (b2 : Below W1.heap.size W1 V2) (hL : Blk V2 gL 42 ((List.replicate RC lcZ).flatMap LC.cs).toArray)
    (h1 : Rw w V2 b8 (fun v => #[v, .slice none 0 0, .slice (some ⟨gL, 0, none⟩) RC RC]) (.slice Ar R cr) R V3) (h2 : Rw w V3 b8 (fun v => #[.slice Ar R cr, v, .slice (some ⟨gL, 0, none⟩) RC RC]) (.slice Ac C cc) C W) (hb8 : b8 = W1.heap.size + 1) (hgL : gL = W1.heap.size) (hRC : RC = R * C) :
    BuM w own w.heap.size (w.heap.size + 1) b8 S pR pC pS pN gL PL R C Ar Ac cr cc none [] (List.replicate RC lcZ) W := by
  have s12 := b2.size
  have s23 := h1.ch.size
  have bk : Below W1.heap.size W1 W := ⟨h2.ch.os.trans (h1.ch.os.trans b2.os), h2.ch.tape.trans (h1.ch.tape.trans b2.tape), h2.ch.output.trans (h1.ch.output.trans b2.output), Nat.le_trans s12 (Nat.le_trans s23 h2.ch.size), fun k hk => (h2.ch.block k (by omega) (by omega)).trans ((h1.ch.block k (by omega) (by omega)).trans (b2.block k hk))⟩
  have hwz := hw.size
  have hg3 : gL ≠ b8 := by omega
  have hL3 := hL.kept (h1.ch.block _ hL.lt hg3)
  have hL4 := hL3.kept (h2.ch.block _ hL3.lt hg3)
  have r1 := h1.row
  have r2 := h2.row
  have x8 := h2.bx
  rw [idsN_len] at r1 r2
  have og : own gL = 0 := by
    rcases Nat.eq_zero_or_pos (own gL) with h | h
    · exact h
    · have := (hfr gL (by omega)).1; omega
  rw [hRC] at x8
  exact ⟨hw.trans (bk.mono hwz), x1.kept (bk.block _ x1.lt), x3.kept (bk.block _ x3.lt), x8, ownsRow_weak (row_kept r1 h1.bx (by decide) h2.ch.block) (by omega), ownsRow_weak r2 (by omega), hsh.kept (bk.block _ hsh.lt), hst.below bk, haR.keep (Same.below bk), haC.keep (Same.below bk), hL4,
    ⟨ho.1, ho.2.1, og, fun b e => by cases e⟩, fun k hk => ⟨Nat.lt_of_lt_of_le (hfr k hk).1 bk.size, (hfr k hk).2⟩, ⟨ho.2.2, by omega, fun b e => by cases e⟩⟩
/-- What Build tells of a plan that is more than is looked at. -/
def BuZ (w : World) (e : Ending) (w' : World) : Prop := e = .returned (.tuple #[.pointer none, .agg #[.slice none 0 0, .slice none 0 0, .slice none 0 0], .int .i64 0]) ∧ Below w.heap.size w w'
/-- What Build leaves. -/
structure BuE (w : World) (own : Tags) (S pR pC pS pN gL : Nat) (R C : Nat) (m : Option Nat) (kvs : List (Cel × Val)) (Lc : List LC) (W : World) : Prop where
  bw : Below w.heap.size w W
  sh : ShB W S pR pC pS pN
  st : StA W pS m kvs
  aR : AxisAt W own 1 pR (idsN R) (List.replicate (idsN R).length true)
  aC : AxisAt W own 2 pC (idsN C) (List.replicate (idsN C).length true)
  L : Blk W gL 42 (Lc.flatMap LC.cs).toArray
  ow : own pS = 0 ∧ own S = 0 ∧ own gL = 0 ∧ ∀ b, m = some b → own b = 0
  fr : ∀ k, own k ≠ 0 → k < W.heap.size ∧ w.heap.size ≤ k
  ag : Agree R C kvs (Lc.map LC.kv)
  le : kvs.length ≤ 12
def BuP (R C : Nat) (w : World) (e : Ending) (w' : World) : Prop := BuZ w e w' ∨ ∃ own S pR pC pS pN gL m kvs Lc Ar cr Ac cc, e = .returned (.tuple #[.pointer (some ⟨S, 0, none⟩), .agg #[.slice Ar R cr, .slice Ac C cc, .slice (some ⟨gL, 0, none⟩) (R * C) (R * C)], .int .i64 1]) ∧ BuE w own S pR pC pS pN gL R C m kvs Lc w'
theorem BuM.fin {w : World} {own : Tags} {b1 b3 b8 S pR pC pS pN gL : Nat} {PL : Array Value} {R C : Nat} {Ar Ac : Option Addr} {cr cc : Nat} {m : Option Nat} {kvs : List (Cel × Val)} {Lc : List LC} {W W' : World} (H : BuM w own b1 b3 b8 S pR pC pS pN gL PL R C Ar Ac cr cc m kvs Lc W) (hA : Agree R C kvs (Lc.map LC.kv)) (hK : kvs.length ≤ 12) (hb : w.heap.size ≤ b3) (ho : own b3 = 0) (hc : Chg (fun k => k ≠ b3) W W') : BuE w own S pR pC pS pN gL R C m kvs Lc W' := by
  have hB : ∀ {b : Nat} {t : TypeId} {cs : Array Value}, Blk W b t cs → t ≠ 49 → Blk W' b t cs := fun hb ht => hb.kept (hc.block _ hb.lt (blk_ne hb H.x3 ht))
  have sm : ∀ t, t ≠ 0 → Same t own W own W' := fun t ht j hj he => ⟨hc.block j hj (fun e => by rw [e, ho] at he; exact ht he.symm), he⟩
  exact ⟨⟨hc.os.trans H.bw.os, hc.tape.trans H.bw.tape, hc.output.trans H.bw.output, Nat.le_trans H.bw.size hc.size, fun k hk => (hc.block k (Nat.lt_of_lt_of_le hk H.bw.size) (by omega)).trans (H.bw.block k hk)⟩,
    hB H.sh (by decide), ⟨hB H.st.1 (by decide), H.st.2.kept (fun k e => by subst e; exact hc.block _ (show MapG celv W k (kvv kvs) from H.st.2).lt (map_ne (show MapG celv W k (kvv kvs) from H.st.2) H.x3))⟩, H.aR.keep (sm 1 (by decide)), H.aC.keep (sm 2 (by decide)), hB H.L (by decide), H.ow, fun k hk => ⟨Nat.lt_of_lt_of_le (H.fr k hk).1 hc.size, (H.fr k hk).2⟩, hA, hK⟩
set_option maxRecDepth 100000 in
set_option maxHeartbeats 8000000 in
theorem build_c (a b : Nat) (ha : a < 256) (hb : b < 256) (A : Option Addr) (c : Nat) (us : List CV) (d : Nat) (w : World) (hR : ManyR CV.cs 33 w A us) (hk : ∀ u ∈ us, u.k ≠ 2 ∧ u.Ok d w) (hn : us.length ≤ maxLen) :
    Calls Tryz.prog 5 #[.agg #[.int .u8 a, .int .u8 b, .slice A us.length c]] w (BuP (a % 7) (b % 7) w) := by
  have B0 := Bxs.start w [(24, #[.int .u8 a, .int .u8 b, .slice A us.length c]), (49, #[.slice none 0 0, .slice none 0 0, .slice none 0 0])]
  simp only [allocAll] at B0
  have X1 := Lib.hid (B0.box 0 _ _ rfl)
  have X3 := Lib.hid (B0.box 1 _ _ rfl)
  have HB := Lib.hid B0.below
  have HU := Lib.hid (And.intro hR hk)
  obtain ⟨n, hn2⟩ : ∃ n, us.length = n := ⟨_, rfl⟩
  rw [hn2] at X1 HB X3 ⊢
  have HN := Lib.hid hn2
  clear hR hk B0 hn hn2
  obtain ⟨R, hR⟩ : ∃ R, R = a % 7 := ⟨_, rfl⟩
  obtain ⟨C, hC⟩ : ∃ C, C = b % 7 := ⟨_, rfl⟩
  rw [← hR, ← hC]
  have HMD := Lib.hid (show (a : Int) % 7 = (R : Int) ∧ (b : Int) % 7 = (C : Int) by omega)
  have HRC := Lib.hid (show R ≤ 6 ∧ C ≤ 6 by omega)
  clear hR hC
  go_enter Tryz.func5, Tryz.ntmps5
  go_upto_region 1 with fail
  generalize hV : (w.alloc _).alloc _ = V at *
  clear hV
  simp only [Nat.add_zero] at X1 X3
  have c0 := X1.out.cell 0
  have c1 := X1.out.cell 1
  have c2 := X1.out.cell 2
  simp only [List.getElem?_toArray, List.getElem?_cons_zero, List.getElem?_cons_succ] at c0 c1 c2
  by_cases h12 : (12 : Int) < (n : Int)
  · skip
    have x3 := X3.out
    have q0 := x3.cell 0
    have q1 := x3.cell 1
    have q2 := x3.cell 2
    have p0 := x3.frozen 0
    have p1 := x3.frozen 1
    have p2 := x3.frozen 2
    simp only [List.getElem?_toArray, List.getElem?_cons_zero, List.getElem?_cons_succ] at q0 q1 q2
    have HBZ := Lib.hid (((x3.store 0 (.slice none 0 0)).store 1 (.slice none 0 0)).store 2 (.slice none 0 0))
    clear x3
    go_wp2_with fail
    exact bodyPost_ret (results_tct rfl _ _ _ 49 #[.slice none 0 0, .slice none 0 0, .slice none 0 0] (0, 0) _ rfl rfl HBZ.out Tryz.underlying49 (by kernel_rfl)) rfl (.inl ⟨rfl, ((HB.out.setCell (by simp) _).setCell (by simp) _).setCell (by simp) _⟩)
  · have h12b : (n : Int) ≤ 12 := by omega
    have C0 : AllCells V.drew [(⟨w.heap.size, 0, none⟩, .int .u8 a), (⟨w.heap.size, 1, none⟩, .int .u8 b)] := ⟨c0, c1, trivial⟩
    have ha0 : (0 : Int) ≤ (a : Int) := by omega
    have hb0 : (0 : Int) ≤ (b : Int) := by omega
    have ha1 : (a : Int) < 256 := by omega
    have hb1 : (b : Int) < 256 := by omega
    go_upto_region 3 with fail
    refine rfree [0, 1, 2, 3, 4, 5, 6, 7, 8, 9] 0 (by kernel_rfl) (fun _ _ _ _ _ h => h) C0 ?_
    intro hne hu; try simp only [AllCells] at hu
    simp only [pick, pk]
    repeat (go_big_quiet_step (fail))
    refine wpQuiet_nil ?_; clear hne hu
    refine ⟨by kernel_rfl, ?_⟩
    go_wp2_with fail
    rw [HMD.out.1, HMD.out.2]
    refine (sheetnew_c R C (by have := HRC.out.1; omega) (by have := HRC.out.2; omega) V.drew).mono ?_
    rintro _ W1 ⟨own, S, pR, pC, pS, pN, rfl, hsh, hst, ⟨o1, o2, o3, o4, o5⟩, haR, haC, hfr, hbw⟩
    have hb1' : Below V.heap.size V W1 := (Below.refl _ V).drew.trans hbw
    have HO3 := Lib.hid (show own (w.heap.size + 1) = 0 from by
      rcases Nat.eq_zero_or_pos (own (w.heap.size + 1)) with h | h
      · exact h
      · have h1 : V.heap.size ≤ w.heap.size + 1 := (hfr _ (by omega)).2
        have h2 := X3.out.lt
        omega)
    have X1b := Lib.hid (X1.out.kept (hb1'.block _ X1.out.lt))
    have X3b := Lib.hid (X3.out.kept (hb1'.block _ X3.out.lt))
    have HB1 := Lib.hid (HB.out.trans (hb1'.mono HB.out.size))
    have HWW := Lib.hid X3b.out.lt
    have s2 := hsh.cell 2
    have HVS := Lib.hid (show w.heap.size ≤ V.drew.heap.size from HB.out.size)
    have HS := Lib.hid (And.intro hsh (And.intro hst (And.intro (And.intro o1 (And.intro o2 (And.intro o4 o5))) (And.intro haR (And.intro haC hfr)))))
    simp only [List.getElem?_toArray, List.getElem?_cons_zero, List.getElem?_cons_succ] at s2
    clear hsh hst o1 o2 o3 o4 o5 haR haC hfr hbw hb1' c0 c1 c2 C0 X1 X3 HB ha0 hb0 ha1 hb1 ha hb
    obtain ⟨RC, hRC⟩ : ∃ RC, RC = R * C := ⟨_, rfl⟩
    have hmul : (R : Int) * (C : Int) = (RC : Int) := by rw [hRC]; simp
    have h36 : RC ≤ 36 := by rw [hRC]; exact Nat.le_trans (Nat.mul_le_mul HRC.out.1 HRC.out.2) (by decide)
    have HRCE := Lib.hid hRC
    have h36i : (RC : Int) ≤ 36 := by omega
    have h0i : (0 : Int) ≤ (RC : Int) := by omega
    clear hRC
    have hsz1 : w.heap.size ≤ W1.heap.size := HB1.out.size
    have hbl : Below W1.heap.size W1 (W1.alloc (.cells ((List.replicate RC lcZ).flatMap LC.cs).toArray 42)) := (Below.refl _ _).alloc (Nat.le_refl _) _
    have hbl2 := hbl.alloc (by simp) (.cells #[.slice none 0 0, .slice none 0 0, .slice (some ⟨W1.heap.size, 0, none⟩) RC RC] 49)
    have hL2 : Blk ((W1.alloc (.cells ((List.replicate RC lcZ).flatMap LC.cs).toArray 42)).alloc (.cells #[.slice none 0 0, .slice none 0 0, .slice (some ⟨W1.heap.size, 0, none⟩) RC RC] 49)) W1.heap.size 42 ((List.replicate RC lcZ).flatMap LC.cs).toArray := (Blk.new W1 _ _).kept (Below.heap_alloc _ _ _ (by simp))
    have h82 := Blk.new (W1.alloc (.cells ((List.replicate RC lcZ).flatMap LC.cs).toArray 42)) 49 #[.slice none 0 0, .slice none 0 0, .slice (some ⟨W1.heap.size, 0, none⟩) RC RC]
    rw [World.size_alloc] at h82
    go_upto_region 8 with (refine wpList_makeL rfl _ _ rfl RC h36 rfl rfl ?_)
    generalize (W1.alloc (.cells ((List.replicate RC lcZ).flatMap LC.cs).toArray 42)).alloc (.cells #[.slice none 0 0, .slice none 0 0, .slice (some ⟨W1.heap.size, 0, none⟩) RC RC] 49) = V2 at *
    obtain ⟨b8, hb8⟩ : ∃ b8, b8 = W1.heap.size + 1 := ⟨_, rfl⟩
    obtain ⟨gL, hgL⟩ : ∃ gL, gL = W1.heap.size := ⟨_, rfl⟩
    rw [← hb8] at h82 ⊢
    rw [← hgL] at h82 hL2 ⊢
    have HL2 := Lib.hid hL2
    have HB2 := Lib.hid hbl2
    have HNB := Lib.hid (show w.heap.size ≤ b8 ∧ w.heap.size ≤ gL ∧ b8 = W1.heap.size + 1 ∧ gL = W1.heap.size ∧ w.heap.size ≤ V2.heap.size by refine ⟨by omega, by omega, hb8, hgL, ?_⟩; exact Nat.le_trans hsz1 hbl2.size)
    have R0 := Lib.hid (show Rw w V2 b8 (fun v => #[v, .slice none 0 0, .slice (some ⟨gL, 0, none⟩) RC RC]) (.slice none 0 0) 0 V2 from ⟨h82, World.ownsRow_nil _ _ _ _, Chg.refl _ _, HB1.out.trans (hbl2.mono hsz1)⟩)
    obtain ⟨i0, hi, hz0, hz1, hz2⟩ := info_parts Tryz.info27
    clear hbl hbl2 hL2 h82 hb8 hgL hsz1
    go_wp2_with fail
    go_loopw [49] (fun iv wx => ∃ i : Nat, i ≤ R ∧ iv = .int .i64 i ∧ ∃ v, Hid (Rw w V2 b8 (fun v => #[v, .slice none 0 0, .slice (some ⟨gL, 0, none⟩) RC RC]) v i wx)) (fun iv _ => R - (intOf iv).toNat)
    case atStart => exact ⟨0, Nat.zero_le _, rfl, _, R0⟩
    case round =>
      clear R0
      obtain ⟨i, hi2, rfl, v, hr⟩ := hrel
      by_cases hlt : i < R
      · have hlt2 : (i : Int) < (R : Int) := by omega
        have hi3 : i ≤ 1000 := by have := HRC.out; omega
        obtain ⟨A9, c9, rfl, -⟩ := ownsRow_shape hr.out.row
        have bl : Below wr.heap.size wr (wr.alloc (.cells #[.int .i64 0, .int .i64 ((i : Int) + 1)] 27)) := (Below.refl _ _).alloc (Nat.le_refl _) _
        have d0 := hr.out.bx.cell 0
        simp only [List.getElem?_toArray, List.getElem?_cons_zero, List.getElem?_cons_succ] at d0
        have HB9 := Lib.hid (hr.out.bw.trans (bl.mono hr.out.bw.size))
        have HR9 := Lib.hid (ownsRow_kept hr.out.row (fun g _ hg => bl.block g hg))
        have HLE := Lib.hid (show V2.heap.size ≤ (wr.alloc (.cells #[.int .i64 0, .int .i64 ((i : Int) + 1)] 27)).heap.size from Nat.le_trans hr.out.ch.size bl.size)
        have HLN : Hid ((idsN i).length < 100000000) := Lib.hid (by rw [idsN_len]; omega)
        have HBL := Lib.hid bl
        have HRW := Lib.hid hr.out
        clear bl hr
        go_wp2_with (refine app_pure (w0 := w) (f := idf) rfl _ _ _ rfl i0 _ 16 Tryz.underlying46 hi hz0 hz1 hz2 rfl (by omega) HB9.out HNB.out.2.2.2.2 HLE.out HR9.out rfl wr.heap.size (0, (i : Int) + 1) rfl (Blk.new wr _ _) rfl (by simp [idf, Value.oneCell']) HLN.out (by omega) (fun v' w' b' r' g' => ?_); rw [show idsN i ++ [((0 : Int), (i : Int) + 1)] = idsN (i + 1) from (idsN_succ i).symm] at r'; obtain ⟨q1, q2⟩ := HRW.out.step (j := 0) (fun _ _ => rfl) HNB.out.2.2.2.2 HNB.out.1 HBL.out g' r'; obtain ⟨A', c', rfl, -⟩ := ownsRow_shape r'; have d1 := q1.cell 0; have f1 := q1.frozen 0; simp only [List.getElem?_toArray, List.getElem?_cons_zero, List.getElem?_cons_succ] at d1; have HQ := Lib.hid q2; clear r' b' g' q1 q2 d0)
        exact ⟨⟨i + 1, hlt, by simp, _, HQ⟩, by simp [intOf]; omega⟩
      · have hlt2 : ¬ (i : Int) < (R : Int) := by omega
        obtain rfl : i = R := by omega
        obtain ⟨Ar, cr, rfl, -⟩ := ownsRow_shape hr.out.row
        rw [idsN_len] at hr
        have HR1 := Lib.hid hr.out
        have R0 := Lib.hid (show Rw w wr b8 (fun v => #[.slice Ar i cr, v, .slice (some ⟨gL, 0, none⟩) RC RC]) (.slice none 0 0) 0 wr from ⟨hr.out.bx, World.ownsRow_nil _ _ _ _, Chg.refl _ _, hr.out.bw⟩)
        have HNB := Lib.hid (show w.heap.size ≤ b8 ∧ w.heap.size ≤ gL ∧ b8 = W1.heap.size + 1 ∧ gL = W1.heap.size ∧ w.heap.size ≤ wr.heap.size from ⟨HNB.out.1, HNB.out.2.1, HNB.out.2.2.1, HNB.out.2.2.2.1, hr.out.bw.size⟩)
        clear hr hlt hlt2 hi2
        go_upto_region 13 with fail
        generalize wr = V3 at *
        generalize hRR : i = R2 at *
        clear hRR
        go_wp2_with fail
        go_loopw [62] (fun iv wx => ∃ i : Nat, i ≤ C ∧ iv = .int .i64 i ∧ ∃ v, Hid (Rw w V3 b8 (fun v => #[.slice Ar R2 cr, v, .slice (some ⟨gL, 0, none⟩) RC RC]) v i wx)) (fun iv _ => C - (intOf iv).toNat)
        case atStart => exact ⟨0, Nat.zero_le _, rfl, _, R0⟩
        case round =>
          clear R0
          obtain ⟨i, hi2, rfl, v, hr⟩ := hrel
          by_cases hlt : i < C
          · have hlt2 : (i : Int) < (C : Int) := by omega
            have hi3 : i ≤ 1000 := by have := HRC.out; omega
            obtain ⟨A9, c9, rfl, -⟩ := ownsRow_shape hr.out.row
            have bl : Below wr.heap.size wr (wr.alloc (.cells #[.int .i64 0, .int .i64 ((i : Int) + 1)] 27)) := (Below.refl _ _).alloc (Nat.le_refl _) _
            have d0 := hr.out.bx.cell 1
            simp only [List.getElem?_toArray, List.getElem?_cons_zero, List.getElem?_cons_succ] at d0
            have HB9 := Lib.hid (hr.out.bw.trans (bl.mono hr.out.bw.size))
            have HR9 := Lib.hid (ownsRow_kept hr.out.row (fun g _ hg => bl.block g hg))
            have HLE := Lib.hid (show V3.heap.size ≤ (wr.alloc (.cells #[.int .i64 0, .int .i64 ((i : Int) + 1)] 27)).heap.size from Nat.le_trans hr.out.ch.size bl.size)
            have HLN : Hid ((idsN i).length < 100000000) := Lib.hid (by rw [idsN_len]; omega)
            have HBL := Lib.hid bl
            have HRW := Lib.hid hr.out
            clear bl hr
            go_wp2_with (refine app_pure (w0 := w) (f := idf) rfl _ _ _ rfl i0 _ 16 Tryz.underlying46 hi hz0 hz1 hz2 rfl (by omega) HB9.out HNB.out.2.2.2.2 HLE.out HR9.out rfl wr.heap.size (0, (i : Int) + 1) rfl (Blk.new wr _ _) rfl (by simp [idf, Value.oneCell']) HLN.out (by omega) (fun v' w' b' r' g' => ?_); rw [show idsN i ++ [((0 : Int), (i : Int) + 1)] = idsN (i + 1) from (idsN_succ i).symm] at r'; obtain ⟨q1, q2⟩ := HRW.out.step (j := 1) (fun _ _ => rfl) HNB.out.2.2.2.2 HNB.out.1 HBL.out g' r'; obtain ⟨A', c', rfl, -⟩ := ownsRow_shape r'; have d1 := q1.cell 1; have f1 := q1.frozen 1; simp only [List.getElem?_toArray, List.getElem?_cons_zero, List.getElem?_cons_succ] at d1; have HQ := Lib.hid q2; clear r' b' g' q1 q2 d0)
            exact ⟨⟨i + 1, hlt, by simp, _, HQ⟩, by simp [intOf]; omega⟩
          · have hlt2 : ¬ (i : Int) < (C : Int) := by omega
            obtain rfl : i = C := by omega
            obtain ⟨Ac, cc, rfl, -⟩ := ownsRow_shape hr.out.row
            rw [idsN_len] at hr
            obtain ⟨hsh, hst, ⟨o1, o2, o4, o5⟩, haR, haC, hfr⟩ := HS.out
            have HBM := Lib.hid (bum_of hsh hst ⟨o1, o2, Nat.le_trans HVS.out o4⟩ haR haC (fun k hk => ⟨(hfr k hk).1, Nat.le_trans HVS.out (hfr k hk).2⟩) X1b.out X3b.out HB1.out HB2.out HL2.out HR1.out hr.out HNB.out.2.2.1 HNB.out.2.2.2.1 HRCE.out)
            clear hsh hst o1 o2 o4 o5 haR haC hfr HR1 hr X1b X3b HB1 HB2 HL2 HS hlt hlt2 hi2
            generalize hCC : i = C2 at *
            clear hCC
            have HL0 := Lib.hid (show BuL w own w.heap.size (w.heap.size + 1) b8 S pR pC pS pN gL #[.int .u8 a, .int .u8 b, .slice A n c] R2 C2 Ar Ac cr cc 0 wr from ⟨none, [], _, HBM.out, by rw [List.map_replicate, HRCE.out]; exact Agree.zero _ _, Nat.le_refl _⟩)
            have c2 := HBM.out.x1.cell 2
            simp only [List.getElem?_toArray, List.getElem?_cons_zero, List.getElem?_cons_succ] at c2
            clear HBM
            go_wp2_with fail
            clear c2
            go_loopw [77] (fun iv wx => ∃ i : Nat, i ≤ n ∧ iv = .int .i64 i ∧ Hid (BuL w own w.heap.size (w.heap.size + 1) b8 S pR pC pS pN gL #[.int .u8 a, .int .u8 b, .slice A n c] R2 C2 Ar Ac cr cc i wx)) (fun iv _ => n - (intOf iv).toNat)
            case atStart => exact ⟨0, Nat.zero_le _, rfl, HL0⟩
            case round =>
              clear HL0
              obtain ⟨i, hi2, rfl, hL⟩ := hrel
              by_cases hlt : i < n
              · have hlt2 : (i : Int) < (n : Int) := by omega
                have h0i2 : (0 : Int) ≤ (i : Int) := by omega
                obtain ⟨m, kvs, Lc, hM, hA, hK⟩ := hL.out.ex
                have hul : i < us.length := by rw [HN.out]; exact hlt
                obtain ⟨hR0, hk0⟩ := HU.out
                obtain ⟨hkf, hok⟩ := hk0 us[i] (List.getElem_mem hul)
                obtain ⟨bA, oA, hAA, hAl, hAc⟩ := (hR0.next hM.bw) (fun e => by rw [e] at hul; simp at hul)
                have hcs : wr.rangeAt bA (oA + i * 33) us[i].cs := fun j v hj => hAc i hul j v hj
                generalize us[i] = u at *
                have HCS := Lib.hid hcs
                have HCL := Lib.hid u.len
                have HCO := Lib.hid u.ones
                have hlz : Hid (cvZ.length = 33) := Lib.hid rfl
                have bl : Below wr.heap.size wr (wr.alloc (.cells u.cs.toArray 44)) := (Below.refl _ _).alloc (Nat.le_refl _) _
                have HM := Lib.hid (hM.below bl)
                have HX := Lib.hid (Blk.new wr 44 u.cs.toArray)
                have HAG := Lib.hid (And.intro hA hK)
                have HOK := Lib.hid (And.intro hkf hok)
                have HRG0 := Lib.hid hok.2.2.1
                have HAA := Lib.hid hAA
                have HLT := Lib.hid hlt
                clear bl hM hA hK hkf hok hcs hAc hAl hR0 hk0 hL hul hi2 hlt
                rw [HAA.out]
                go_upto_region 21 with (first | refine ld_step cv_row rfl _ rfl _ _ rfl HCL.out HCS.out ?_ | refine st_new cv_row rfl _ _ rfl (cs := u.cs) (z := cvZ) rfl rfl HCL.out hlz.out HCO.out ?_)
                generalize hV5 : wr.alloc (.cells u.cs.toArray 44) = V5 at *
                generalize hbx : wr.heap.size = bx at *
                clear hV5 hbx HCS HCL HCO hlz hlt2
                obtain ⟨⟨⟨x1, x2⟩, x3, x4⟩, k, ⟨vk, vm, ve, vt, vb, vf⟩, f, AA2, l, cl⟩ := u
                have HCT := Lib.hid (show (CV.ct ⟨((x1, x2), (x3, x4)), k, ⟨vk, vm, ve, vt, vb, vf⟩, f, AA2, l, cl⟩).length = 29 from rfl)
                have HTL := Lib.hid (show (CV.tree ⟨((x1, x2), (x3, x4)), k, ⟨vk, vm, ve, vt, vb, vf⟩, f, AA2, l, cl⟩).length = 22 from rfl)
                have HRG := Lib.hid (show -9223372036854775808 ≤ vm ∧ vm ≤ 9223372036854775807 ∧ -9223372036854775808 ≤ ve ∧ ve ≤ 9223372036854775807 from HRG0.out)
                clear HRG0
                have c8 : V5.cell? ⟨bx, 8, none⟩ = some (.string vt) := HX.out.cell 8
                have lt11 := Lib.hid (show V5.rangeAt bx 11 (CV.tree ⟨((x1, x2), (x3, x4)), k, ⟨vk, vm, ve, vt, vb, vf⟩, f, AA2, l, cl⟩) from (Seg.of HX.out).part (a := [_, _, _, _, _, _, _, _, _, _, _]) (c := []) (by rw [List.append_nil]; rfl))
                by_cases h100 : (100 : Int) < (vt.size : Int)
                · skip
                  have x3 := HM.out.x3
                  have q0 := x3.cell 0
                  have q1 := x3.cell 1
                  have q2 := x3.cell 2
                  have p0 := x3.frozen 0
                  have p1 := x3.frozen 1
                  have p2 := x3.frozen 2
                  simp only [List.getElem?_toArray, List.getElem?_cons_zero, List.getElem?_cons_succ] at q0 q1 q2
                  have HBZ := Lib.hid (((x3.store 0 (.slice none 0 0)).store 1 (.slice none 0 0)).store 2 (.slice none 0 0))
                  clear x3
                  go_wp2_with fail
                  exact bodyPost_ret (results_tct rfl _ _ _ 49 #[.slice none 0 0, .slice none 0 0, .slice none 0 0] (0, 0) _ rfl rfl HBZ.out Tryz.underlying49 (by kernel_rfl)) rfl (.inl ⟨rfl, ((HM.out.bw.setCell (by simp) _).setCell (by simp) _).setCell (by simp) _⟩)
                · have h100b : (vt.size : Int) ≤ 100 := by omega
                  have HND := Lib.hid (rnodes_c d f l AA2 cl w V5 HOK.out.2.1 HM.out.bw HOK.out.2.2.1)
                  go_wp2_with (first | refine ld_stepG node_row rfl _ rfl _ _ rfl HTL.out lt11.out ?_ | fail)
                  refine HND.out.mono ?_
                  rintro _ W6 ⟨vs, a9, c9, rfl, -, -, -, b6⟩
                  have HM6 := Lib.hid (HM.out.below b6)
                  have HX6 := Lib.hid (HX.out.kept (b6.block _ HX.out.lt))
                  clear c8 lt11 HND HM HX b6
                  have lt4 := Lib.hid (show W6.rangeAt bx 4 (CV.ct ⟨((x1, x2), (x3, x4)), k, ⟨vk, vm, ve, vt, vb, vf⟩, f, AA2, l, cl⟩) from (Seg.of HX6.out).part (a := [_, _, _, _]) (c := []) (by rw [List.append_nil]; rfl))
                  obtain ⟨nv, hnv⟩ : ∃ nv, nv = vs.length := ⟨_, rfl⟩
                  rw [← hnv]
                  clear hnv
                  by_cases h30 : (30 : Int) < (nv : Int)
                  · skip
                    have x3 := HM6.out.x3
                    have q0 := x3.cell 0
                    have q1 := x3.cell 1
                    have q2 := x3.cell 2
                    have p0 := x3.frozen 0
                    have p1 := x3.frozen 1
                    have p2 := x3.frozen 2
                    simp only [List.getElem?_toArray, List.getElem?_cons_zero, List.getElem?_cons_succ] at q0 q1 q2
                    have HBZ := Lib.hid (((x3.store 0 (.slice none 0 0)).store 1 (.slice none 0 0)).store 2 (.slice none 0 0))
                    clear x3
                    go_wp2_with fail
                    exact bodyPost_ret (results_tct rfl _ _ _ 49 #[.slice none 0 0, .slice none 0 0, .slice none 0 0] (0, 0) _ rfl rfl HBZ.out Tryz.underlying49 (by kernel_rfl)) rfl (.inl ⟨rfl, ((HM6.out.bw.setCell (by simp) _).setCell (by simp) _).setCell (by simp) _⟩)
                  · have h30d : decide ((30 : Int) < (nv : Int)) = false := decide_eq_false (by omega)
                    have h30b : (nv : Int) ≤ 30 := by omega
                    have HRT := Lib.hid (rright18_c k ⟨vk, vm, ve, vt, vb, vf⟩ f AA2 l.length (l.length + cl) HOK.out.1 HOK.out.2.2.2.1.1 HOK.out.2.2.2.1.2.1 HOK.out.2.2.2.1.2.2.1 HOK.out.2.2.2.1.2.2.2 HOK.out.2.2.2.2 W6)
                    go_wp2_with (first | refine ld_stepG cont_row rfl _ rfl _ _ rfl HCT.out lt4.out ?_ | fail)
                    refine HRT.out.mono ?_
                    rintro _ W7 ⟨bb, rfl, hbb, b7⟩
                    have HM7 := Lib.hid (HM6.out.below b7)
                    have HX7 := Lib.hid (HX6.out.kept (b7.block _ HX6.out.lt))
                    clear lt4 HRT HM6 HX6 b7
                    cases bb
                    · skip
                      have x3 := HM7.out.x3
                      have q0 := x3.cell 0
                      have q1 := x3.cell 1
                      have q2 := x3.cell 2
                      have p0 := x3.frozen 0
                      have p1 := x3.frozen 1
                      have p2 := x3.frozen 2
                      simp only [List.getElem?_toArray, List.getElem?_cons_zero, List.getElem?_cons_succ] at q0 q1 q2
                      have HBZ := Lib.hid (((x3.store 0 (.slice none 0 0)).store 1 (.slice none 0 0)).store 2 (.slice none 0 0))
                      clear x3
                      go_wp2_with fail
                      exact bodyPost_ret (results_tct rfl _ _ _ 49 #[.slice none 0 0, .slice none 0 0, .slice none 0 0] (0, 0) _ rfl rfl HBZ.out Tryz.underlying49 (by kernel_rfl)) rfl (.inl ⟨rfl, ((HM7.out.bw.setCell (by simp) _).setCell (by simp) _).setCell (by simp) _⟩)
                    · have hokc := hbb.out rfl
                      obtain ⟨rfl, hl0, hkv⟩ := hokc
                      obtain rfl := List.length_eq_zero_iff.1 hl0
                      have HKV := Lib.hid hkv
                      have HIS := Lib.hid (is18_c ((x1, x2), (x3, x4)) W7)
                      simp only [Cel.cs] at HIS
                      have e0 : W7.cell? ⟨bx, 0, none⟩ = some (.int .i64 x1) := HX7.out.cell 0
                      have e1 : W7.cell? ⟨bx, 1, none⟩ = some (.int .i64 x2) := HX7.out.cell 1
                      have e2 : W7.cell? ⟨bx, 2, none⟩ = some (.int .i64 x3) := HX7.out.cell 2
                      have e3 : W7.cell? ⟨bx, 3, none⟩ = some (.int .i64 x4) := HX7.out.cell 3
                      have HLEN := Lib.hid (show Lc.length = RC by have h := HAG.out.1.len; rw [List.length_map] at h; rw [h, HRCE.out])
                      have HKZ := Lib.hid (show k = 0 → (⟨vk, vm, ve, vt, vb, vf⟩ : Val) = zeroV from fun e => by
                        rcases HKV.out with ⟨-, hz⟩ | ⟨h1, -⟩
                        · exact hz
                        · omega)
                      clear hl0 hkv hbb h30d h30b h30 h100b h100 HOK
                      go_wp2_with fail
                      refine HIS.out.mono ?_
                      rintro _ W8 ⟨rfl, b8'⟩
                      have HM8 := Lib.hid (HM7.out.below b8')
                      have HX8 := Lib.hid (HX7.out.kept (b8'.block _ HX7.out.lt))
                      clear e0 e1 e2 e3 b8' HM7 HX7 HIS
                      obtain ⟨ic, hic⟩ : ∃ ic, ic = isC ((x1, x2), (x3, x4)) := ⟨_, rfl⟩
                      rw [show (!(ideq x1 x2 0 0) && !(ideq x3 x4 0 0)) = ic from hic.symm]
                      have HIC := Lib.hid hic
                      clear hic
                      obtain ⟨uL, huL⟩ : ∃ uL : LC, uL = ⟨k, ⟨vk, vm, ve, vt, vb, vf⟩, AA2, ([] : List Nd).length + cl⟩ := ⟨_, rfl⟩
                      have HUL := Lib.hid huL
                      clear huL
                      cases ic
                      · have hkk : stepK kvs (((x1, x2), (x3, x4)), k, ⟨vk, vm, ve, vt, vb, vf⟩) = kvs := by
                          unfold stepK
                          rw [if_neg (by rw [← HIC.out]; decide)]
                        have HM9 := Lib.hid (show BuI w own w.heap.size (w.heap.size + 1) b8 S pR pC pS pN gL _ R2 C2 Ar Ac cr cc m (stepK kvs (((x1, x2), (x3, x4)), k, ⟨vk, vm, ve, vt, vb, vf⟩)) Lc ((x1, x2), (x3, x4)) uL bx _ (0 * C2) W8 from ⟨by rw [hkk, Nat.zero_mul, stepAt_zero]; exact HM8.out, HX8.out⟩)
                        clear HM8 HX8 hkk
                        generalize hKV : stepK kvs (((x1, x2), (x3, x4)), k, ⟨vk, vm, ve, vt, vb, vf⟩) = KVS at *
                        have HKVE := Lib.hid hKV
                        obtain ⟨mm, hmm⟩ : ∃ mm, mm = m := ⟨_, rfl⟩
                        rw [← hmm] at HM9
                        clear hKV hmm
                        have HRR := Lib.hid (show R2 ≤ 6 ∧ C2 ≤ 6 from HRC.out)
                        have c80 := HM9.out.bu.x8.cell 0
                        simp only [List.getElem?_toArray, List.getElem?_cons_zero, List.getElem?_cons_succ] at c80
                        go_wp2_with fail
                        clear c80
                        go_loopw [117] (fun iv wx => ∃ i2 : Nat, i2 ≤ R2 ∧ iv = .int .i64 i2 ∧ Hid (BuI w own w.heap.size (w.heap.size + 1) b8 S pR pC pS pN gL #[.int .u8 a, .int .u8 b, .slice A n c] R2 C2 Ar Ac cr cc mm KVS Lc ((x1, x2), (x3, x4)) uL bx (CV.cs ⟨((x1, x2), (x3, x4)), k, ⟨vk, vm, ve, vt, vb, vf⟩, .zero, AA2, [], cl⟩).toArray (i2 * C2) wx)) (fun iv _ => R2 - (intOf iv).toNat)
                        case atStart => exact ⟨0, Nat.zero_le _, rfl, HM9⟩
                        case round =>
                          clear HM9
                          obtain ⟨i2, hi2, rfl, hL⟩ := hrel
                          by_cases hlt : i2 < R2
                          · have hlt2 : (i2 : Int) < (R2 : Int) := by omega
                            have h0i2 : (0 : Int) ≤ (i2 : Int) := by omega
                            obtain ⟨gr, hAr, r0, r1⟩ := id_at hL.out.bu.rr hlt
                            have HAr := Lib.hid hAr
                            have bl : Below wr.heap.size wr (wr.alloc (.cells #[.int .i64 0, .int .i64 ((i2 : Int) + 1)] 27)) := (Below.refl _ _).alloc (Nat.le_refl _) _
                            have HL2 := Lib.hid (hL.out.below bl)
                            have HB14 := Lib.hid (Blk.new wr 27 #[.int .i64 0, .int .i64 ((i2 : Int) + 1)])
                            have c81 := HL2.out.bu.x8.cell 1
                            have HLT2 := Lib.hid hlt
                            simp only [List.getElem?_toArray, List.getElem?_cons_zero, List.getElem?_cons_succ] at c81
                            clear hAr bl hL hi2 hlt
                            rw [HAr.out]
                            go_wp2_with fail
                            clear c81 r0 r1 hlt2
                            generalize wr.alloc (.cells #[.int .i64 0, .int .i64 ((i2 : Int) + 1)] 27) = V6 at *
                            generalize wr.heap.size = b14 at *
                            go_loopw [125] (fun iv wx => ∃ k2 : Nat, k2 ≤ C2 ∧ iv = .int .i64 k2 ∧ Hid (BuI w own w.heap.size (w.heap.size + 1) b8 S pR pC pS pN gL #[.int .u8 a, .int .u8 b, .slice A n c] R2 C2 Ar Ac cr cc mm KVS Lc ((x1, x2), (x3, x4)) uL bx (CV.cs ⟨((x1, x2), (x3, x4)), k, ⟨vk, vm, ve, vt, vb, vf⟩, .zero, AA2, [], cl⟩).toArray (i2 * C2 + k2) wx) ∧ Hid (Blk wx b14 27 #[.int .i64 0, .int .i64 ((i2 : Int) + 1)])) (fun iv _ => C2 - (intOf iv).toNat)
                            case atStart => exact ⟨0, Nat.zero_le _, rfl, HL2, HB14⟩
                            case round =>
                              clear HL2 HB14
                              obtain ⟨k2, hk2, rfl, hL, hB⟩ := hrel
                              by_cases hlt : k2 < C2
                              · have hlt3 : (k2 : Int) < (C2 : Int) := by omega
                                have h0k2 : (0 : Int) ≤ (k2 : Int) := by omega
                                obtain ⟨gc, hAc, r0, r1⟩ := id_at hL.out.bu.rc hlt
                                have HAc := Lib.hid hAc
                                have bl : Below wr.heap.size wr (wr.alloc (.cells #[.int .i64 0, .int .i64 ((k2 : Int) + 1)] 27)) := (Below.refl _ _).alloc (Nat.le_refl _) _
                                have HL2 := Lib.hid (hL.out.below bl)
                                have HB14 := Lib.hid (hB.out.kept (bl.block _ hB.out.lt))
                                have HB16 := Lib.hid (Blk.new wr 27 #[.int .i64 0, .int .i64 ((k2 : Int) + 1)])
                                have HLT3 := Lib.hid hlt
                                clear hAc bl hL hB hk2 hlt
                                rw [HAc.out]
                                go_upto_region 31 with fail
                                clear r0 r1 hlt3
                                generalize wr.alloc (.cells #[.int .i64 0, .int .i64 ((k2 : Int) + 1)] 27) = V7 at *
                                generalize wr.heap.size = b16 at *
                                have e0 : V7.cell? ⟨bx, 0, none⟩ = some (.int .i64 x1) := HL2.out.bx.cell 0
                                have e1 : V7.cell? ⟨bx, 1, none⟩ = some (.int .i64 x2) := HL2.out.bx.cell 1
                                have e2 : V7.cell? ⟨bx, 2, none⟩ = some (.int .i64 x3) := HL2.out.bx.cell 2
                                have e3 : V7.cell? ⟨bx, 3, none⟩ = some (.int .i64 x4) := HL2.out.bx.cell 3
                                have g0 : V7.cell? ⟨b14, 0, none⟩ = some (.int .i64 0) := HB14.out.cell 0
                                have g1 : V7.cell? ⟨b14, 1, none⟩ = some (.int .i64 ((i2 : Int) + 1)) := HB14.out.cell 1
                                have g2 : V7.cell? ⟨b16, 0, none⟩ = some (.int .i64 0) := HB16.out.cell 0
                                have g3 : V7.cell? ⟨b16, 1, none⟩ = some (.int .i64 ((k2 : Int) + 1)) := HB16.out.cell 1
                                by_cases hx : (((x1, x2), (x3, x4)) : Cel) = celN i2 k2
                                · have hq : (ideq x1 x2 0 ((i2 : Int) + 1) && ideq x3 x4 0 ((k2 : Int) + 1)) = true := by
                                    unfold celN at hx
                                    simp only [Prod.mk.injEq] at hx
                                    obtain ⟨⟨rfl, rfl⟩, rfl, rfl⟩ := hx
                                    simp [ideq]
                                  obtain ⟨qq, hqq⟩ : ∃ qq, qq = i2 * C2 := ⟨_, rfl⟩
                                  obtain ⟨pp, hpp⟩ : ∃ pp, pp = qq + k2 := ⟨_, rfl⟩
                                  have hmul2 : (i2 : Int) * (C2 : Int) = (qq : Int) := by rw [hqq]; simp
                                  have hadd2 : (qq : Int) + (k2 : Int) = (pp : Int) := by rw [hpp]; simp
                                  have hppRC : pp < RC := by
                                    rw [hpp, hqq, HRCE.out]
                                    exact idx_lt (celN_idx HLT2.out HLT3.out)
                                  have hp1 : (pp : Int) < (RC : Int) := by omega
                                  have hp0 : (0 : Int) ≤ (pp : Int) := by omega
                                  have hp36 : pp ≤ 36 := by omega
                                  have hq0 : (0 : Int) ≤ (qq : Int) := by omega
                                  have hq36 : (qq : Int) ≤ 36 := by omega
                                  have HPP := Lib.hid (show pp = i2 * C2 + k2 by rw [hpp, hqq])
                                  have c82 := HL2.out.bu.x8.cell 2
                                  rw [← HRCE.out] at c82
                                  simp only [List.getElem?_toArray, List.getElem?_cons_zero, List.getElem?_cons_succ] at c82
                                  have lt4 := Lib.hid (show V7.rangeAt bx 4 uL.cs from by rw [HUL.out]; exact (Seg.of HL2.out.bx).part (a := [_, _, _, _]) (c := []) (by rw [List.append_nil]; rfl))
                                  have HUN := Lib.hid uL.len
                                  have HUO := Lib.hid uL.ones
                                  have HLB := Lib.hid HL2.out.bu.L
                                  have HX9 := Lib.hid hx
                                  have HLL := Lib.hid (show (stepAt R2 C2 Lc ((x1, x2), (x3, x4)) uL (i2 * C2 + k2)).length = RC by rw [stepAt_len, HLEN.out])
                                  have HBD := Lib.hid (show pp * 29 + 29 ≤ ((stepAt R2 C2 Lc ((x1, x2), (x3, x4)) uL (i2 * C2 + k2)).flatMap LC.cs).length by rw [flat_len LC.len, HLL.out]; omega)
                                  clear hqq hpp hx
                                  go_wp2_with (first | refine ld_step cont_row rfl _ rfl _ _ rfl HUN.out lt4.out ?_ | (refine st_blk cont_row rfl _ _ rfl (o := pp * 29) (vs := uL.cs) rfl rfl HLB.out HUN.out HBD.out HUO.out ?_; intro W9' hB9 hC9; clear e0 e1 e2 e3 g0 g1 g2 g3 c82 lt4))
                                  have hne : ∀ {b : Nat} {t : TypeId} {cs : Array Value}, Blk V7 b t cs → t ≠ 42 → Blk W9' b t cs := fun hb ht => hb.kept (hC9.out.block _ hb.lt (blk_ne hb HLB.out ht))
                                  have hset : putAt ((stepAt R2 C2 Lc ((x1, x2), (x3, x4)) uL (i2 * C2 + k2)).flatMap LC.cs) (pp * 29) uL.cs = (stepAt R2 C2 Lc ((x1, x2), (x3, x4)) uL (i2 * C2 + (k2 + 1))).flatMap LC.cs := by
                                    rw [putAt_el (f := LC.cs) (k := 29) LC.len _ pp uL (by rw [HLL.out]; exact hppRC), HPP.out, HX9.out, stepAt_hit Lc uL HLT2.out HLT3.out]
                                    rfl
                                  have hB9' := hB9.out
                                  rw [hset] at hB9'
                                  rw [← HAc.out]
                                  exact ⟨⟨k2 + 1, HLT3.out, by simp, Lib.hid ⟨HL2.out.bu.setL hC9.out hB9', hne HL2.out.bx (by decide)⟩, Lib.hid (hne HB14.out (by decide))⟩, by have := HLT3.out; simp [intOf]; omega⟩
                                · have hq : (ideq x1 x2 0 ((i2 : Int) + 1) && ideq x3 x4 0 ((k2 : Int) + 1)) = false := by
                                    cases hb : (ideq x1 x2 0 ((i2 : Int) + 1) && ideq x3 x4 0 ((k2 : Int) + 1)) with
                                    | false => rfl
                                    | true =>
                                      rw [Bool.and_eq_true, ideq_true, ideq_true] at hb
                                      exact absurd (by unfold celN; rw [hb.1.1, hb.1.2, hb.2.1, hb.2.2]; simp) hx
                                  have HX9 := Lib.hid hx
                                  clear hx
                                  have hk9 : (k2 : Int) ≤ 6 := by have := HLT3.out; have := HRR.out.2; omega
                                  go_wp2_with fail
                                  rw [← HAc.out]
                                  have hst := stepAt_miss (R := R2) (i := i2) Lc uL HLT3.out HX9.out
                                  exact ⟨⟨k2 + 1, HLT3.out, by simp, Lib.hid ⟨by rw [← Nat.add_assoc, hst]; exact HL2.out.bu, HL2.out.bx⟩, HB14⟩, by have := HLT3.out; simp [intOf]; omega⟩
                              · have hlt3 : ¬ (k2 : Int) < (C2 : Int) := by omega
                                obtain rfl : k2 = C2 := by omega
                                have hk9 : (i2 : Int) ≤ 6 := by have := HLT2.out; have := HRR.out.1; omega
                                go_wp2_with fail
                                rw [← HAr.out]
                                exact ⟨⟨i2 + 1, HLT2.out, by simp, by rw [Nat.succ_mul]; exact hL⟩, by have := HLT2.out; simp [intOf]; omega⟩
                          · have hlt2 : ¬ (i2 : Int) < (R2 : Int) := by omega
                            obtain rfl : i2 = R2 := by omega
                            have hi12 : (i : Int) ≤ 12 := by have := HLT.out; omega
                            go_wp2_with fail
                            have hLL := hL.out.bu
                            rw [stepAt_all] at hLL
                            rw [← HAA.out]
                            exact ⟨⟨i + 1, HLT.out, by simp, Lib.hid ⟨mm, _, _, hLL, by rw [← HKVE.out, stepL_map, HUL.out]; exact HAG.out.1.step (((x1, x2), (x3, x4)), k, ⟨vk, vm, ve, vt, vb, vf⟩) HKZ.out, by rw [← HKVE.out]; exact Nat.le_trans (stepK_le _ _) (by have := HAG.out.2; omega)⟩⟩, by have := HLT.out; simp [intOf]; omega⟩
                      · have HPUT := Lib.hid (show Calls Tryz.prog 13 #[.pointer (some ⟨pS, 0, none⟩), .agg #[.int .i64 x1, .int .i64 x2, .int .i64 x3, .int .i64 x4], .agg (ccs k ⟨vk, vm, ve, vt, vb, vf⟩ (zt AA2 (([] : List Nd).length + cl))).toArray] W8.drew (PutP pS m (stepK kvs (((x1, x2), (x3, x4)), k, ⟨vk, vm, ve, vt, vb, vf⟩)) W8.drew) from by
                          have hst : StA W8.drew pS m kvs := HM8.out.st.below (Below.refl _ _).drew
                          have hic := HIC.out.symm
                          have h12 : kvs.length ≤ 12 := by have := HAG.out.2; have := HLT.out; omega
                          unfold stepK
                          rw [if_pos hic]
                          rcases HKV.out with ⟨rfl, hz⟩ | ⟨rfl, hv, hr⟩
                          · rw [if_pos rfl, hz]
                            exact put0_c AA2 _ pS m kvs ((x1, x2), (x3, x4)) W8.drew hst hic
                          · rw [if_neg (show ¬ (1 : Int) = 0 by decide)]
                            cases m with
                            | none => exact put1_none AA2 _ pS kvs h12 ((x1, x2), (x3, x4)) _ W8.drew hst hic hv hr HRG.out.1 HRG.out.2.1 HRG.out.2.2.1 HRG.out.2.2.2
                            | some mb => exact put1_some AA2 _ pS mb kvs h12 ((x1, x2), (x3, x4)) _ W8.drew hst hic hv hr HRG.out.1 HRG.out.2.1 HRG.out.2.2.1 HRG.out.2.2.2)
                        have C24 : AllCells W8.drew [(⟨S, 2, none⟩, .pointer (some ⟨pS, 0, none⟩)), (⟨bx, 0, none⟩, .int .i64 x1), (⟨bx, 1, none⟩, .int .i64 x2), (⟨bx, 2, none⟩, .int .i64 x3), (⟨bx, 3, none⟩, .int .i64 x4)] := ⟨HM8.out.sh.cell 2, HX8.out.cell 0, HX8.out.cell 1, HX8.out.cell 2, HX8.out.cell 3, trivial⟩
                        obtain ⟨-, e0, e1, e2, e3, -⟩ := id C24
                        have lt4 := Lib.hid (show W8.drew.rangeAt bx 4 (CV.ct ⟨((x1, x2), (x3, x4)), k, ⟨vk, vm, ve, vt, vb, vf⟩, .zero, AA2, [], cl⟩) from (Seg.of (show Blk W8.drew bx _ _ from HX8.out.kept rfl)).part (a := [_, _, _, _]) (c := []) (by rw [List.append_nil]; rfl))
                        go_upto_region 24 with fail
                        refine rfree [0, 1, 2, 3, 4, 6] 3 (by kernel_rfl) (fun _ _ _ _ _ h => h) C24 ?_
                        intro hne hu; try simp only [AllCells] at hu
                        simp only [pick, pk]
                        repeat (go_big_quiet_step (fail))
                        refine wpQuiet_nil ?_; clear hne hu
                        refine anyN_twoL 5 7 (by kernel_rfl) ?_ ?_ <;> simp only [pk]
                        · go_wp2_with fail
                          first | refine And.intro (fun _ => C24) ?_ | refine And.intro C24 ?_ | skip
                          refine anyN_oneL 7 (by kernel_rfl) ?_; simp only [pk]
                          go_wp2_with (refine ld_step cont_row rfl _ rfl _ _ rfl HCT.out lt4.out ?_)
                          try simp only [Act.put, List.setIfInBounds_toArray, List.set_cons_succ, List.set_cons_zero]
                          first | refine And.intro (fun _ => C24) ?_ | refine And.intro C24 ?_ | skip
                          refine anyN_oneL 8 (by kernel_rfl) ?_; simp only [pk]
                          go_wp2_with fail
                          refine HPUT.out.mono ?_
                          intro ee W9 hp
                          obtain ⟨rfl, hpp⟩ := id hp
                          obtain ⟨⟨mm, hbm⟩, hkb⟩ := (HM8.out.below (Below.refl _ _).drew).put hp
                          have hx9 := hkb (show Blk W8.drew bx 44 _ from HX8.out.kept rfl) (by decide)
                          have hs9 := hkb (show Blk W8.drew S 71 _ from HM8.out.sh.kept rfl) (by decide)
                          have C25 : AllCells W9 [(⟨S, 2, none⟩, .pointer (some ⟨pS, 0, none⟩)), (⟨bx, 0, none⟩, .int .i64 x1), (⟨bx, 1, none⟩, .int .i64 x2), (⟨bx, 2, none⟩, .int .i64 x3), (⟨bx, 3, none⟩, .int .i64 x4)] := ⟨hs9.cell 2, hx9.cell 0, hx9.cell 1, hx9.cell 2, hx9.cell 3, trivial⟩
                          have HM9 := Lib.hid (show BuI w own w.heap.size (w.heap.size + 1) b8 S pR pC pS pN gL _ R2 C2 Ar Ac cr cc mm (stepK kvs (((x1, x2), (x3, x4)), k, ⟨vk, vm, ve, vt, vb, vf⟩)) Lc ((x1, x2), (x3, x4)) uL bx _ (0 * C2) W9 from ⟨by rw [Nat.zero_mul, stepAt_zero]; exact hbm, hx9⟩)
                          clear hp hpp hbm hkb hx9 hs9 C24 e0 e1 e2 e3 lt4 HPUT
                          go_wp2_with fail
                          first | refine And.intro (fun _ => C25) ?_ | refine And.intro C25 ?_ | skip
                          refine ⟨by kernel_rfl, ?_⟩
                          clear C25
                          generalize hKV : stepK kvs (((x1, x2), (x3, x4)), k, ⟨vk, vm, ve, vt, vb, vf⟩) = KVS at *
                          have HKVE := Lib.hid hKV
                          clear hKV
                          have HRR := Lib.hid (show R2 ≤ 6 ∧ C2 ≤ 6 from HRC.out)
                          have c80 := HM9.out.bu.x8.cell 0
                          simp only [List.getElem?_toArray, List.getElem?_cons_zero, List.getElem?_cons_succ] at c80
                          go_wp2_with fail
                          clear c80
                          go_loopw [117] (fun iv wx => ∃ i2 : Nat, i2 ≤ R2 ∧ iv = .int .i64 i2 ∧ Hid (BuI w own w.heap.size (w.heap.size + 1) b8 S pR pC pS pN gL #[.int .u8 a, .int .u8 b, .slice A n c] R2 C2 Ar Ac cr cc mm KVS Lc ((x1, x2), (x3, x4)) uL bx (CV.cs ⟨((x1, x2), (x3, x4)), k, ⟨vk, vm, ve, vt, vb, vf⟩, .zero, AA2, [], cl⟩).toArray (i2 * C2) wx)) (fun iv _ => R2 - (intOf iv).toNat)
                          case atStart => exact ⟨0, Nat.zero_le _, rfl, HM9⟩
                          case round =>
                            clear HM9
                            obtain ⟨i2, hi2, rfl, hL⟩ := hrel
                            by_cases hlt : i2 < R2
                            · have hlt2 : (i2 : Int) < (R2 : Int) := by omega
                              have h0i2 : (0 : Int) ≤ (i2 : Int) := by omega
                              obtain ⟨gr, hAr, r0, r1⟩ := id_at hL.out.bu.rr hlt
                              have HAr := Lib.hid hAr
                              have bl : Below wr.heap.size wr (wr.alloc (.cells #[.int .i64 0, .int .i64 ((i2 : Int) + 1)] 27)) := (Below.refl _ _).alloc (Nat.le_refl _) _
                              have HL2 := Lib.hid (hL.out.below bl)
                              have HB14 := Lib.hid (Blk.new wr 27 #[.int .i64 0, .int .i64 ((i2 : Int) + 1)])
                              have c81 := HL2.out.bu.x8.cell 1
                              have HLT2 := Lib.hid hlt
                              simp only [List.getElem?_toArray, List.getElem?_cons_zero, List.getElem?_cons_succ] at c81
                              clear hAr bl hL hi2 hlt
                              rw [HAr.out]
                              go_wp2_with fail
                              clear c81 r0 r1 hlt2
                              generalize wr.alloc (.cells #[.int .i64 0, .int .i64 ((i2 : Int) + 1)] 27) = V6 at *
                              generalize wr.heap.size = b14 at *
                              go_loopw [125] (fun iv wx => ∃ k2 : Nat, k2 ≤ C2 ∧ iv = .int .i64 k2 ∧ Hid (BuI w own w.heap.size (w.heap.size + 1) b8 S pR pC pS pN gL #[.int .u8 a, .int .u8 b, .slice A n c] R2 C2 Ar Ac cr cc mm KVS Lc ((x1, x2), (x3, x4)) uL bx (CV.cs ⟨((x1, x2), (x3, x4)), k, ⟨vk, vm, ve, vt, vb, vf⟩, .zero, AA2, [], cl⟩).toArray (i2 * C2 + k2) wx) ∧ Hid (Blk wx b14 27 #[.int .i64 0, .int .i64 ((i2 : Int) + 1)])) (fun iv _ => C2 - (intOf iv).toNat)
                              case atStart => exact ⟨0, Nat.zero_le _, rfl, HL2, HB14⟩
                              case round =>
                                clear HL2 HB14
                                obtain ⟨k2, hk2, rfl, hL, hB⟩ := hrel
                                by_cases hlt : k2 < C2
                                · have hlt3 : (k2 : Int) < (C2 : Int) := by omega
                                  have h0k2 : (0 : Int) ≤ (k2 : Int) := by omega
                                  obtain ⟨gc, hAc, r0, r1⟩ := id_at hL.out.bu.rc hlt
                                  have HAc := Lib.hid hAc
                                  have bl : Below wr.heap.size wr (wr.alloc (.cells #[.int .i64 0, .int .i64 ((k2 : Int) + 1)] 27)) := (Below.refl _ _).alloc (Nat.le_refl _) _
                                  have HL2 := Lib.hid (hL.out.below bl)
                                  have HB14 := Lib.hid (hB.out.kept (bl.block _ hB.out.lt))
                                  have HB16 := Lib.hid (Blk.new wr 27 #[.int .i64 0, .int .i64 ((k2 : Int) + 1)])
                                  have HLT3 := Lib.hid hlt
                                  clear hAc bl hL hB hk2 hlt
                                  rw [HAc.out]
                                  go_upto_region 31 with fail
                                  clear r0 r1 hlt3
                                  generalize wr.alloc (.cells #[.int .i64 0, .int .i64 ((k2 : Int) + 1)] 27) = V7 at *
                                  generalize wr.heap.size = b16 at *
                                  have e0 : V7.cell? ⟨bx, 0, none⟩ = some (.int .i64 x1) := HL2.out.bx.cell 0
                                  have e1 : V7.cell? ⟨bx, 1, none⟩ = some (.int .i64 x2) := HL2.out.bx.cell 1
                                  have e2 : V7.cell? ⟨bx, 2, none⟩ = some (.int .i64 x3) := HL2.out.bx.cell 2
                                  have e3 : V7.cell? ⟨bx, 3, none⟩ = some (.int .i64 x4) := HL2.out.bx.cell 3
                                  have g0 : V7.cell? ⟨b14, 0, none⟩ = some (.int .i64 0) := HB14.out.cell 0
                                  have g1 : V7.cell? ⟨b14, 1, none⟩ = some (.int .i64 ((i2 : Int) + 1)) := HB14.out.cell 1
                                  have g2 : V7.cell? ⟨b16, 0, none⟩ = some (.int .i64 0) := HB16.out.cell 0
                                  have g3 : V7.cell? ⟨b16, 1, none⟩ = some (.int .i64 ((k2 : Int) + 1)) := HB16.out.cell 1
                                  by_cases hx : (((x1, x2), (x3, x4)) : Cel) = celN i2 k2
                                  · have hq : (ideq x1 x2 0 ((i2 : Int) + 1) && ideq x3 x4 0 ((k2 : Int) + 1)) = true := by
                                      unfold celN at hx
                                      simp only [Prod.mk.injEq] at hx
                                      obtain ⟨⟨rfl, rfl⟩, rfl, rfl⟩ := hx
                                      simp [ideq]
                                    obtain ⟨qq, hqq⟩ : ∃ qq, qq = i2 * C2 := ⟨_, rfl⟩
                                    obtain ⟨pp, hpp⟩ : ∃ pp, pp = qq + k2 := ⟨_, rfl⟩
                                    have hmul2 : (i2 : Int) * (C2 : Int) = (qq : Int) := by rw [hqq]; simp
                                    have hadd2 : (qq : Int) + (k2 : Int) = (pp : Int) := by rw [hpp]; simp
                                    have hppRC : pp < RC := by
                                      rw [hpp, hqq, HRCE.out]
                                      exact idx_lt (celN_idx HLT2.out HLT3.out)
                                    have hp1 : (pp : Int) < (RC : Int) := by omega
                                    have hp0 : (0 : Int) ≤ (pp : Int) := by omega
                                    have hp36 : pp ≤ 36 := by omega
                                    have hq0 : (0 : Int) ≤ (qq : Int) := by omega
                                    have hq36 : (qq : Int) ≤ 36 := by omega
                                    have HPP := Lib.hid (show pp = i2 * C2 + k2 by rw [hpp, hqq])
                                    have c82 := HL2.out.bu.x8.cell 2
                                    rw [← HRCE.out] at c82
                                    simp only [List.getElem?_toArray, List.getElem?_cons_zero, List.getElem?_cons_succ] at c82
                                    have lt4 := Lib.hid (show V7.rangeAt bx 4 uL.cs from by rw [HUL.out]; exact (Seg.of HL2.out.bx).part (a := [_, _, _, _]) (c := []) (by rw [List.append_nil]; rfl))
                                    have HUN := Lib.hid uL.len
                                    have HUO := Lib.hid uL.ones
                                    have HLB := Lib.hid HL2.out.bu.L
                                    have HX9 := Lib.hid hx
                                    have HLL := Lib.hid (show (stepAt R2 C2 Lc ((x1, x2), (x3, x4)) uL (i2 * C2 + k2)).length = RC by rw [stepAt_len, HLEN.out])
                                    have HBD := Lib.hid (show pp * 29 + 29 ≤ ((stepAt R2 C2 Lc ((x1, x2), (x3, x4)) uL (i2 * C2 + k2)).flatMap LC.cs).length by rw [flat_len LC.len, HLL.out]; omega)
                                    clear hqq hpp hx
                                    go_wp2_with (first | refine ld_step cont_row rfl _ rfl _ _ rfl HUN.out lt4.out ?_ | (refine st_blk cont_row rfl _ _ rfl (o := pp * 29) (vs := uL.cs) rfl rfl HLB.out HUN.out HBD.out HUO.out ?_; intro W9' hB9 hC9; clear e0 e1 e2 e3 g0 g1 g2 g3 c82 lt4))
                                    have hne : ∀ {b : Nat} {t : TypeId} {cs : Array Value}, Blk V7 b t cs → t ≠ 42 → Blk W9' b t cs := fun hb ht => hb.kept (hC9.out.block _ hb.lt (blk_ne hb HLB.out ht))
                                    have hset : putAt ((stepAt R2 C2 Lc ((x1, x2), (x3, x4)) uL (i2 * C2 + k2)).flatMap LC.cs) (pp * 29) uL.cs = (stepAt R2 C2 Lc ((x1, x2), (x3, x4)) uL (i2 * C2 + (k2 + 1))).flatMap LC.cs := by
                                      rw [putAt_el (f := LC.cs) (k := 29) LC.len _ pp uL (by rw [HLL.out]; exact hppRC), HPP.out, HX9.out, stepAt_hit Lc uL HLT2.out HLT3.out]
                                      rfl
                                    have hB9' := hB9.out
                                    rw [hset] at hB9'
                                    rw [← HAc.out]
                                    exact ⟨⟨k2 + 1, HLT3.out, by simp, Lib.hid ⟨HL2.out.bu.setL hC9.out hB9', hne HL2.out.bx (by decide)⟩, Lib.hid (hne HB14.out (by decide))⟩, by have := HLT3.out; simp [intOf]; omega⟩
                                  · have hq : (ideq x1 x2 0 ((i2 : Int) + 1) && ideq x3 x4 0 ((k2 : Int) + 1)) = false := by
                                      cases hb : (ideq x1 x2 0 ((i2 : Int) + 1) && ideq x3 x4 0 ((k2 : Int) + 1)) with
                                      | false => rfl
                                      | true =>
                                        rw [Bool.and_eq_true, ideq_true, ideq_true] at hb
                                        exact absurd (by unfold celN; rw [hb.1.1, hb.1.2, hb.2.1, hb.2.2]; simp) hx
                                    have HX9 := Lib.hid hx
                                    clear hx
                                    have hk9 : (k2 : Int) ≤ 6 := by have := HLT3.out; have := HRR.out.2; omega
                                    go_wp2_with fail
                                    rw [← HAc.out]
                                    have hst := stepAt_miss (R := R2) (i := i2) Lc uL HLT3.out HX9.out
                                    exact ⟨⟨k2 + 1, HLT3.out, by simp, Lib.hid ⟨by rw [← Nat.add_assoc, hst]; exact HL2.out.bu, HL2.out.bx⟩, HB14⟩, by have := HLT3.out; simp [intOf]; omega⟩
                                · have hlt3 : ¬ (k2 : Int) < (C2 : Int) := by omega
                                  obtain rfl : k2 = C2 := by omega
                                  have hk9 : (i2 : Int) ≤ 6 := by have := HLT2.out; have := HRR.out.1; omega
                                  go_wp2_with fail
                                  rw [← HAr.out]
                                  exact ⟨⟨i2 + 1, HLT2.out, by simp, by rw [Nat.succ_mul]; exact hL⟩, by have := HLT2.out; simp [intOf]; omega⟩
                            · have hlt2 : ¬ (i2 : Int) < (R2 : Int) := by omega
                              obtain rfl : i2 = R2 := by omega
                              have hi12 : (i : Int) ≤ 12 := by have := HLT.out; omega
                              go_wp2_with fail
                              have hLL := hL.out.bu
                              rw [stepAt_all] at hLL
                              rw [← HAA.out]
                              exact ⟨⟨i + 1, HLT.out, by simp, Lib.hid ⟨mm, _, _, hLL, by rw [← HKVE.out, stepL_map, HUL.out]; exact HAG.out.1.step (((x1, x2), (x3, x4)), k, ⟨vk, vm, ve, vt, vb, vf⟩) HKZ.out, by rw [← HKVE.out]; exact Nat.le_trans (stepK_le _ _) (by have := HAG.out.2; omega)⟩⟩, by have := HLT.out; simp [intOf]; omega⟩
                        · go_wp2_with (refine ld_step cont_row rfl _ rfl _ _ rfl HCT.out lt4.out ?_)
                          try simp only [Act.put, List.setIfInBounds_toArray, List.set_cons_succ, List.set_cons_zero]
                          first | refine And.intro (fun _ => C24) ?_ | refine And.intro C24 ?_ | skip
                          refine anyN_oneL 5 (by kernel_rfl) ?_; simp only [pk]
                          go_wp2_with fail
                          first | refine And.intro (fun _ => C24) ?_ | refine And.intro C24 ?_ | skip
                          refine anyN_oneL 8 (by kernel_rfl) ?_; simp only [pk]
                          go_wp2_with fail
                          refine HPUT.out.mono ?_
                          intro ee W9 hp
                          obtain ⟨rfl, hpp⟩ := id hp
                          obtain ⟨⟨mm, hbm⟩, hkb⟩ := (HM8.out.below (Below.refl _ _).drew).put hp
                          have hx9 := hkb (show Blk W8.drew bx 44 _ from HX8.out.kept rfl) (by decide)
                          have hs9 := hkb (show Blk W8.drew S 71 _ from HM8.out.sh.kept rfl) (by decide)
                          have C25 : AllCells W9 [(⟨S, 2, none⟩, .pointer (some ⟨pS, 0, none⟩)), (⟨bx, 0, none⟩, .int .i64 x1), (⟨bx, 1, none⟩, .int .i64 x2), (⟨bx, 2, none⟩, .int .i64 x3), (⟨bx, 3, none⟩, .int .i64 x4)] := ⟨hs9.cell 2, hx9.cell 0, hx9.cell 1, hx9.cell 2, hx9.cell 3, trivial⟩
                          have HM9 := Lib.hid (show BuI w own w.heap.size (w.heap.size + 1) b8 S pR pC pS pN gL _ R2 C2 Ar Ac cr cc mm (stepK kvs (((x1, x2), (x3, x4)), k, ⟨vk, vm, ve, vt, vb, vf⟩)) Lc ((x1, x2), (x3, x4)) uL bx _ (0 * C2) W9 from ⟨by rw [Nat.zero_mul, stepAt_zero]; exact hbm, hx9⟩)
                          clear hp hpp hbm hkb hx9 hs9 C24 e0 e1 e2 e3 lt4 HPUT
                          go_wp2_with fail
                          first | refine And.intro (fun _ => C25) ?_ | refine And.intro C25 ?_ | skip
                          refine ⟨by kernel_rfl, ?_⟩
                          clear C25
                          generalize hKV : stepK kvs (((x1, x2), (x3, x4)), k, ⟨vk, vm, ve, vt, vb, vf⟩) = KVS at *
                          have HKVE := Lib.hid hKV
                          clear hKV
                          have HRR := Lib.hid (show R2 ≤ 6 ∧ C2 ≤ 6 from HRC.out)
                          have c80 := HM9.out.bu.x8.cell 0
                          simp only [List.getElem?_toArray, List.getElem?_cons_zero, List.getElem?_cons_succ] at c80
                          go_wp2_with fail
                          clear c80
                          go_loopw [117] (fun iv wx => ∃ i2 : Nat, i2 ≤ R2 ∧ iv = .int .i64 i2 ∧ Hid (BuI w own w.heap.size (w.heap.size + 1) b8 S pR pC pS pN gL #[.int .u8 a, .int .u8 b, .slice A n c] R2 C2 Ar Ac cr cc mm KVS Lc ((x1, x2), (x3, x4)) uL bx (CV.cs ⟨((x1, x2), (x3, x4)), k, ⟨vk, vm, ve, vt, vb, vf⟩, .zero, AA2, [], cl⟩).toArray (i2 * C2) wx)) (fun iv _ => R2 - (intOf iv).toNat)
                          case atStart => exact ⟨0, Nat.zero_le _, rfl, HM9⟩
                          case round =>
                            clear HM9
                            obtain ⟨i2, hi2, rfl, hL⟩ := hrel
                            by_cases hlt : i2 < R2
                            · have hlt2 : (i2 : Int) < (R2 : Int) := by omega
                              have h0i2 : (0 : Int) ≤ (i2 : Int) := by omega
                              obtain ⟨gr, hAr, r0, r1⟩ := id_at hL.out.bu.rr hlt
                              have HAr := Lib.hid hAr
                              have bl : Below wr.heap.size wr (wr.alloc (.cells #[.int .i64 0, .int .i64 ((i2 : Int) + 1)] 27)) := (Below.refl _ _).alloc (Nat.le_refl _) _
                              have HL2 := Lib.hid (hL.out.below bl)
                              have HB14 := Lib.hid (Blk.new wr 27 #[.int .i64 0, .int .i64 ((i2 : Int) + 1)])
                              have c81 := HL2.out.bu.x8.cell 1
                              have HLT2 := Lib.hid hlt
                              simp only [List.getElem?_toArray, List.getElem?_cons_zero, List.getElem?_cons_succ] at c81
                              clear hAr bl hL hi2 hlt
                              rw [HAr.out]
                              go_wp2_with fail
                              clear c81 r0 r1 hlt2
                              generalize wr.alloc (.cells #[.int .i64 0, .int .i64 ((i2 : Int) + 1)] 27) = V6 at *
                              generalize wr.heap.size = b14 at *
                              go_loopw [125] (fun iv wx => ∃ k2 : Nat, k2 ≤ C2 ∧ iv = .int .i64 k2 ∧ Hid (BuI w own w.heap.size (w.heap.size + 1) b8 S pR pC pS pN gL #[.int .u8 a, .int .u8 b, .slice A n c] R2 C2 Ar Ac cr cc mm KVS Lc ((x1, x2), (x3, x4)) uL bx (CV.cs ⟨((x1, x2), (x3, x4)), k, ⟨vk, vm, ve, vt, vb, vf⟩, .zero, AA2, [], cl⟩).toArray (i2 * C2 + k2) wx) ∧ Hid (Blk wx b14 27 #[.int .i64 0, .int .i64 ((i2 : Int) + 1)])) (fun iv _ => C2 - (intOf iv).toNat)
                              case atStart => exact ⟨0, Nat.zero_le _, rfl, HL2, HB14⟩
                              case round =>
                                clear HL2 HB14
                                obtain ⟨k2, hk2, rfl, hL, hB⟩ := hrel
                                by_cases hlt : k2 < C2
                                · have hlt3 : (k2 : Int) < (C2 : Int) := by omega
                                  have h0k2 : (0 : Int) ≤ (k2 : Int) := by omega
                                  obtain ⟨gc, hAc, r0, r1⟩ := id_at hL.out.bu.rc hlt
                                  have HAc := Lib.hid hAc
                                  have bl : Below wr.heap.size wr (wr.alloc (.cells #[.int .i64 0, .int .i64 ((k2 : Int) + 1)] 27)) := (Below.refl _ _).alloc (Nat.le_refl _) _
                                  have HL2 := Lib.hid (hL.out.below bl)
                                  have HB14 := Lib.hid (hB.out.kept (bl.block _ hB.out.lt))
                                  have HB16 := Lib.hid (Blk.new wr 27 #[.int .i64 0, .int .i64 ((k2 : Int) + 1)])
                                  have HLT3 := Lib.hid hlt
                                  clear hAc bl hL hB hk2 hlt
                                  rw [HAc.out]
                                  go_upto_region 31 with fail
                                  clear r0 r1 hlt3
                                  generalize wr.alloc (.cells #[.int .i64 0, .int .i64 ((k2 : Int) + 1)] 27) = V7 at *
                                  generalize wr.heap.size = b16 at *
                                  have e0 : V7.cell? ⟨bx, 0, none⟩ = some (.int .i64 x1) := HL2.out.bx.cell 0
                                  have e1 : V7.cell? ⟨bx, 1, none⟩ = some (.int .i64 x2) := HL2.out.bx.cell 1
                                  have e2 : V7.cell? ⟨bx, 2, none⟩ = some (.int .i64 x3) := HL2.out.bx.cell 2
                                  have e3 : V7.cell? ⟨bx, 3, none⟩ = some (.int .i64 x4) := HL2.out.bx.cell 3
                                  have g0 : V7.cell? ⟨b14, 0, none⟩ = some (.int .i64 0) := HB14.out.cell 0
                                  have g1 : V7.cell? ⟨b14, 1, none⟩ = some (.int .i64 ((i2 : Int) + 1)) := HB14.out.cell 1
                                  have g2 : V7.cell? ⟨b16, 0, none⟩ = some (.int .i64 0) := HB16.out.cell 0
                                  have g3 : V7.cell? ⟨b16, 1, none⟩ = some (.int .i64 ((k2 : Int) + 1)) := HB16.out.cell 1
                                  by_cases hx : (((x1, x2), (x3, x4)) : Cel) = celN i2 k2
                                  · have hq : (ideq x1 x2 0 ((i2 : Int) + 1) && ideq x3 x4 0 ((k2 : Int) + 1)) = true := by
                                      unfold celN at hx
                                      simp only [Prod.mk.injEq] at hx
                                      obtain ⟨⟨rfl, rfl⟩, rfl, rfl⟩ := hx
                                      simp [ideq]
                                    obtain ⟨qq, hqq⟩ : ∃ qq, qq = i2 * C2 := ⟨_, rfl⟩
                                    obtain ⟨pp, hpp⟩ : ∃ pp, pp = qq + k2 := ⟨_, rfl⟩
                                    have hmul2 : (i2 : Int) * (C2 : Int) = (qq : Int) := by rw [hqq]; simp
                                    have hadd2 : (qq : Int) + (k2 : Int) = (pp : Int) := by rw [hpp]; simp
                                    have hppRC : pp < RC := by
                                      rw [hpp, hqq, HRCE.out]
                                      exact idx_lt (celN_idx HLT2.out HLT3.out)
                                    have hp1 : (pp : Int) < (RC : Int) := by omega
                                    have hp0 : (0 : Int) ≤ (pp : Int) := by omega
                                    have hp36 : pp ≤ 36 := by omega
                                    have hq0 : (0 : Int) ≤ (qq : Int) := by omega
                                    have hq36 : (qq : Int) ≤ 36 := by omega
                                    have HPP := Lib.hid (show pp = i2 * C2 + k2 by rw [hpp, hqq])
                                    have c82 := HL2.out.bu.x8.cell 2
                                    rw [← HRCE.out] at c82
                                    simp only [List.getElem?_toArray, List.getElem?_cons_zero, List.getElem?_cons_succ] at c82
                                    have lt4 := Lib.hid (show V7.rangeAt bx 4 uL.cs from by rw [HUL.out]; exact (Seg.of HL2.out.bx).part (a := [_, _, _, _]) (c := []) (by rw [List.append_nil]; rfl))
                                    have HUN := Lib.hid uL.len
                                    have HUO := Lib.hid uL.ones
                                    have HLB := Lib.hid HL2.out.bu.L
                                    have HX9 := Lib.hid hx
                                    have HLL := Lib.hid (show (stepAt R2 C2 Lc ((x1, x2), (x3, x4)) uL (i2 * C2 + k2)).length = RC by rw [stepAt_len, HLEN.out])
                                    have HBD := Lib.hid (show pp * 29 + 29 ≤ ((stepAt R2 C2 Lc ((x1, x2), (x3, x4)) uL (i2 * C2 + k2)).flatMap LC.cs).length by rw [flat_len LC.len, HLL.out]; omega)
                                    clear hqq hpp hx
                                    go_wp2_with (first | refine ld_step cont_row rfl _ rfl _ _ rfl HUN.out lt4.out ?_ | (refine st_blk cont_row rfl _ _ rfl (o := pp * 29) (vs := uL.cs) rfl rfl HLB.out HUN.out HBD.out HUO.out ?_; intro W9' hB9 hC9; clear e0 e1 e2 e3 g0 g1 g2 g3 c82 lt4))
                                    have hne : ∀ {b : Nat} {t : TypeId} {cs : Array Value}, Blk V7 b t cs → t ≠ 42 → Blk W9' b t cs := fun hb ht => hb.kept (hC9.out.block _ hb.lt (blk_ne hb HLB.out ht))
                                    have hset : putAt ((stepAt R2 C2 Lc ((x1, x2), (x3, x4)) uL (i2 * C2 + k2)).flatMap LC.cs) (pp * 29) uL.cs = (stepAt R2 C2 Lc ((x1, x2), (x3, x4)) uL (i2 * C2 + (k2 + 1))).flatMap LC.cs := by
                                      rw [putAt_el (f := LC.cs) (k := 29) LC.len _ pp uL (by rw [HLL.out]; exact hppRC), HPP.out, HX9.out, stepAt_hit Lc uL HLT2.out HLT3.out]
                                      rfl
                                    have hB9' := hB9.out
                                    rw [hset] at hB9'
                                    rw [← HAc.out]
                                    exact ⟨⟨k2 + 1, HLT3.out, by simp, Lib.hid ⟨HL2.out.bu.setL hC9.out hB9', hne HL2.out.bx (by decide)⟩, Lib.hid (hne HB14.out (by decide))⟩, by have := HLT3.out; simp [intOf]; omega⟩
                                  · have hq : (ideq x1 x2 0 ((i2 : Int) + 1) && ideq x3 x4 0 ((k2 : Int) + 1)) = false := by
                                      cases hb : (ideq x1 x2 0 ((i2 : Int) + 1) && ideq x3 x4 0 ((k2 : Int) + 1)) with
                                      | false => rfl
                                      | true =>
                                        rw [Bool.and_eq_true, ideq_true, ideq_true] at hb
                                        exact absurd (by unfold celN; rw [hb.1.1, hb.1.2, hb.2.1, hb.2.2]; simp) hx
                                    have HX9 := Lib.hid hx
                                    clear hx
                                    have hk9 : (k2 : Int) ≤ 6 := by have := HLT3.out; have := HRR.out.2; omega
                                    go_wp2_with fail
                                    rw [← HAc.out]
                                    have hst := stepAt_miss (R := R2) (i := i2) Lc uL HLT3.out HX9.out
                                    exact ⟨⟨k2 + 1, HLT3.out, by simp, Lib.hid ⟨by rw [← Nat.add_assoc, hst]; exact HL2.out.bu, HL2.out.bx⟩, HB14⟩, by have := HLT3.out; simp [intOf]; omega⟩
                                · have hlt3 : ¬ (k2 : Int) < (C2 : Int) := by omega
                                  obtain rfl : k2 = C2 := by omega
                                  have hk9 : (i2 : Int) ≤ 6 := by have := HLT2.out; have := HRR.out.1; omega
                                  go_wp2_with fail
                                  rw [← HAr.out]
                                  exact ⟨⟨i2 + 1, HLT2.out, by simp, by rw [Nat.succ_mul]; exact hL⟩, by have := HLT2.out; simp [intOf]; omega⟩
                            · have hlt2 : ¬ (i2 : Int) < (R2 : Int) := by omega
                              obtain rfl : i2 = R2 := by omega
                              have hi12 : (i : Int) ≤ 12 := by have := HLT.out; omega
                              go_wp2_with fail
                              have hLL := hL.out.bu
                              rw [stepAt_all] at hLL
                              rw [← HAA.out]
                              exact ⟨⟨i + 1, HLT.out, by simp, Lib.hid ⟨mm, _, _, hLL, by rw [← HKVE.out, stepL_map, HUL.out]; exact HAG.out.1.step (((x1, x2), (x3, x4)), k, ⟨vk, vm, ve, vt, vb, vf⟩) HKZ.out, by rw [← HKVE.out]; exact Nat.le_trans (stepK_le _ _) (by have := HAG.out.2; omega)⟩⟩, by have := HLT.out; simp [intOf]; omega⟩
              · have hlt2 : ¬ (i : Int) < (n : Int) := by omega
                obtain rfl : i = n := by omega
                obtain ⟨m, kvs, Lc, hM, hA, hK⟩ := hL.out.ex
                have x8 := hM.x8
                have x3 := hM.x3
                rw [← HRCE.out] at x8
                have b0 := x8.cell 0
                have b1 := x8.cell 1
                have b2 := x8.cell 2
                have q0 := x3.cell 0
                have q1 := x3.cell 1
                have q2 := x3.cell 2
                have p0 := x3.frozen 0
                have p1 := x3.frozen 1
                have p2 := x3.frozen 2
                simp only [List.getElem?_toArray, List.getElem?_cons_zero, List.getElem?_cons_succ] at b0 b1 b2 q0 q1 q2
                have hne3 : b8 ≠ w.heap.size + 1 := by have h1 := HNB.out.2.2.1; have h2 := HWW.out; omega
                have HX8 := Lib.hid (((x8.kept (w' := (wr.drew.setCell ⟨w.heap.size + 1, 0, none⟩ (.slice Ar R2 cr))) (Below.heap_setCell _ _ _ _ hne3)).kept (w' := ((wr.drew.setCell ⟨w.heap.size + 1, 0, none⟩ (.slice Ar R2 cr)).setCell ⟨w.heap.size + 1, 1, none⟩ (.slice Ac C2 cc))) (Below.heap_setCell _ _ _ _ hne3)).kept (w' := (((wr.drew.setCell ⟨w.heap.size + 1, 0, none⟩ (.slice Ar R2 cr)).setCell ⟨w.heap.size + 1, 1, none⟩ (.slice Ac C2 cc)).setCell ⟨w.heap.size + 1, 2, none⟩ (.slice (some ⟨gL, 0, none⟩) RC RC))) (Below.heap_setCell _ _ _ _ hne3))
                have HX3 := Lib.hid ((((show Blk wr.drew (w.heap.size + 1) _ _ from x3.kept rfl).store 0 (.slice Ar R2 cr)).store 1 (.slice Ac C2 cc)).store 2 (.slice (some ⟨gL, 0, none⟩) RC RC))
                have CZ : AllCells wr.drew [(⟨b8, 0, none⟩, .slice Ar R2 cr), (⟨b8, 1, none⟩, .slice Ac C2 cc), (⟨b8, 2, none⟩, .slice (some ⟨gL, 0, none⟩) RC RC)] := ⟨b0, b1, b2, trivial⟩
                have CY : AllCells (((wr.drew.setCell ⟨w.heap.size + 1, 0, none⟩ (.slice Ar R2 cr)).setCell ⟨w.heap.size + 1, 1, none⟩ (.slice Ac C2 cc)).setCell ⟨w.heap.size + 1, 2, none⟩ (.slice (some ⟨gL, 0, none⟩) RC RC)) [(⟨b8, 0, none⟩, .slice Ar R2 cr), (⟨b8, 1, none⟩, .slice Ac C2 cc), (⟨b8, 2, none⟩, .slice (some ⟨gL, 0, none⟩) RC RC)] := ⟨HX8.out.cell 0, HX8.out.cell 1, HX8.out.cell 2, trivial⟩
                have HM := Lib.hid (And.intro hM (And.intro hA hK))
                clear hM hA hK x8 x3 hL hi2 hlt hne3
                go_upto_region 36 with fail
                refine rfree [0, 2] 3 (by kernel_rfl) (fun _ _ _ _ _ h => h) CZ ?_
                intro hne hu; try simp only [AllCells] at hu
                simp only [pick, pk]
                repeat (go_big_quiet_step (fail))
                refine wpQuiet_nil ?_; clear hne hu
                refine anyN_oneL 1 (by kernel_rfl) ?_; simp only [pk]
                go_wp2_with fail
                first | refine And.intro (fun _ => CZ) ?_ | refine And.intro CZ ?_ | skip
                refine anyN_oneL 3 (by kernel_rfl) ?_; simp only [pk]
                go_wp2_with fail
                first | refine And.intro (fun _ => CY) ?_ | refine And.intro CY ?_ | skip
                refine anyN_oneL 4 (by kernel_rfl) ?_; simp only [pk]
                go_wp2_with fail
                first | refine And.intro (fun _ => CY) ?_ | refine And.intro CY ?_ | skip
                refine ⟨by kernel_rfl, ?_⟩
                go_wp2_with fail
                obtain ⟨hM, hA, hK⟩ := HM.out
                refine bodyPost_ret (results_tct rfl _ _ (w.heap.size + 1) 49 #[.slice Ar R2 cr, .slice Ac C2 cc, .slice (some ⟨gL, 0, none⟩) RC RC] (0, 0) _ rfl rfl HX3.out Tryz.underlying49 (by kernel_rfl)) rfl (.inr ⟨own, S, pR, pC, pS, pN, gL, m, kvs, Lc, Ar, cr, Ac, cc, by rw [← HRCE.out]; rfl, hM.fin hA (Nat.le_trans hK (by omega)) (Nat.le_succ _) HO3.out ?_⟩)
                exact ((((Chg.refl _ wr).set (fun _ e => e rfl) _).set (fun _ e => e rfl) _).set (fun _ e => e rfl) _).drew
end Go.Proofs.YtoicnghjjgkebaaGreatDoor
