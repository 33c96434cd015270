/-
  (*Store).Put at a content that may be and is no formula: its contract. Conditions: the store lies in memory; the cell is one.
  (*Store).Put at a typed content: its contract. Conditions: the store lies in memory; the cell is one; at most twelve cells.
  cells.New, names.New; sheet.fresh: an axis of n ids, all of them live. Condition: tags lie in the heap.
  sheet.New: its contract. No condition but the sizes.
-/
import Derived.Test.YtoicnghjjgkebaaGreatDoorN13
set_option linter.unusedSectionVars false
set_option linter.unusedSimpArgs false
set_option linter.unusedVariables false
set_option linter.unnecessarySimpa false
namespace Go.Proofs.YtoicnghjjgkebaaGreatDoor
open Go.RowKit Go.Shelf
theorem kvv_put (x : Cel) (v : Val) (l : List (Cel × Val)) : kvv (putG x v l) = putG x (ctv v) (kvv l) := by
  induction l with
  | nil => rfl
  | cons p l ih =>
    obtain ⟨q, u⟩ := p
    simp only [kvv, List.map_cons, putG] at ih ⊢
    split
    · rfl
    · simp [ih]
theorem kvv_del (x : Cel) (l : List (Cel × Val)) : kvv (delG x l) = delG x (kvv l) := by
  induction l with
  | nil => rfl
  | cons p l ih =>
    obtain ⟨q, u⟩ := p
    simp only [kvv, List.map_cons, delG] at ih ⊢
    split
    · rfl
    · simp [ih]
theorem kvv_get (x : Cel) (l : List (Cel × Val)) : getG x (kvv l) = (getG x l).map ctv := by
  induction l with
  | nil => rfl
  | cons p l ih =>
    obtain ⟨q, u⟩ := p
    simp only [kvv, List.map_cons, getG] at ih ⊢
    split
    · rfl
    · exact ih
theorem AllCells.grown {w w' : World} {r : Option Nat} : ∀ {cells : List (Addr × Value)}, AllCells w cells → w.grownBy w' r → (∀ p ∈ cells, some p.1.block ≠ r) → AllCells w' cells
  | [], _, _, _ => trivial
  | p :: _, h, g, hr => ⟨(World.cell?_of_block (g.block p.1.block (World.block_lt_of_cell? w p.1 h.1) (hr p (by simp)))).trans h.1, AllCells.grown h.2 g (fun q hq => hr q (by simp [hq]))⟩
/-- The store in memory. -/
def StA (w : World) (pS : Nat) (m : Option Nat) (kvs : List (Cel × Val)) : Prop := Blk w pS 116 #[.map m] ∧ StoM w m kvs
/-- What 'Put' leaves. -/
def PutP (pS : Nat) (m : Option Nat) (kvs : List (Cel × Val)) (w : World) (e : Ending) (w' : World) : Prop := e = .returned (.int .i64 0) ∧ ∃ m', StA w' pS m' kvs ∧ (m' = m ∨ (m = none ∧ ∃ b, m' = some b ∧ w.heap.size ≤ b)) ∧ Chg (fun k => k ≠ pS ∧ m ≠ some k) w w'
set_option maxRecDepth 100000 in
set_option maxHeartbeats 2000000 in
theorem put0_c (A : Option Addr) (c : Nat) (pS : Nat) (m : Option Nat) (kvs : List (Cel × Val)) (x : Cel) (w : World) (h : StA w pS m kvs) (hx : (!(ideq x.1.1 x.1.2 0 0) && !(ideq x.2.1 x.2.2 0 0)) = true) :
    Calls Tryz.prog 13 #[.pointer (some ⟨pS, 0, none⟩), .agg x.cs.toArray, .agg (ccs 0 zeroV (zt A c)).toArray] w (PutP pS m (delG x kvs) w) := by
  have B0 := Lib.hid (Bxs.start w [(29, x.cs.toArray), (42, (ccs 0 zeroV (zt A c)).toArray)])
  simp only [allocAll] at B0
  have HI := Lib.hid (isCell_c x)
  rw [hx] at HI
  have HRt := Lib.hid (cright_c 0 zeroV A c (.inl ⟨rfl, rfl⟩) (by decide) (by decide) (by decide) (by decide))
  have H := Lib.hid h
  have hl0 : Hid ((ccs 0 zeroV (zt A c)).length = 29) := Lib.hid rfl
  obtain ⟨⟨x1, x2⟩, x3, x4⟩ := x
  obtain ⟨cs, hcs⟩ : ∃ cs, cs = ccs 0 zeroV (zt A c) := ⟨_, rfl⟩
  rw [← hcs] at B0 HRt hl0 ⊢
  have HCS := Lib.hid hcs
  simp only [Cel.cs] at B0 HI ⊢
  clear h hx hcs
  obtain ⟨c0, c1, c2, c3⟩ := (show Blk _ w.heap.size 29 #[.int .i64 x1, .int .i64 x2, .int .i64 x3, .int .i64 x4] from B0.out.box 0 _ _ rfl).four.1
  have d0 := (ct_box (show Blk _ (w.heap.size + 1) 42 _ from by rw [← HCS.out]; exact B0.out.box 1 _ _ rfl)).1.1
  have lc := Lib.hid (Seg.of (show Blk _ (w.heap.size + 1) 42 cs.toArray from B0.out.box 1 _ _ rfl)).lies
  go_enter Tryz.func13, Tryz.ntmps13
  go_wp2_with fail
  refine (HI.out _).mono ?_
  rintro _ w1 ⟨rfl, b1⟩
  have B1 := Lib.hid (B0.out.next b1)
  clear c0 c1 c2 c3 d0 lc b1 B0
  obtain ⟨c0, c1, c2, c3⟩ := (show Blk _ w.heap.size 29 #[.int .i64 x1, .int .i64 x2, .int .i64 x3, .int .i64 x4] from B1.out.box 0 _ _ rfl).four.1
  have d0 := (ct_box (show Blk _ (w.heap.size + 1) 42 _ from by rw [← HCS.out]; exact B1.out.box 1 _ _ rfl)).1.1
  have lc := Lib.hid (Seg.of (show Blk _ (w.heap.size + 1) 42 cs.toArray from B1.out.box 1 _ _ rfl)).lies
  go_wp2_with (first | refine ld_step cont_row rfl _ rfl _ _ rfl hl0.out lc.out ?_ | fail)
  refine (HRt.out _).mono ?_
  rintro _ w2 ⟨rfl, b2⟩
  have B2 := Lib.hid (B1.out.next b2)
  clear c0 c1 c2 c3 d0 lc b2 B1
  obtain ⟨c0, c1, c2, c3⟩ := (show Blk _ w.heap.size 29 #[.int .i64 x1, .int .i64 x2, .int .i64 x3, .int .i64 x4] from B2.out.box 0 _ _ rfl).four.1
  have d0 := (ct_box (show Blk _ (w.heap.size + 1) 42 _ from by rw [← HCS.out]; exact B2.out.box 1 _ _ rfl)).1.1
  have lc := Lib.hid (Seg.of (show Blk _ (w.heap.size + 1) 42 cs.toArray from B2.out.box 1 _ _ rfl)).lies
  go_upto_region 6 with fail
  have HS := Lib.hid (And.intro (H.out.1.kept (B2.out.below.block _ H.out.1.lt)) (H.out.2.kept (w' := w2) (fun b e => by subst e; exact B2.out.below.block _ (show MapG celv w b (kvv kvs) from H.out.2).lt)))
  have C0 : AllCells w2.drew [(⟨pS, 0, none⟩, .map m), (⟨w.heap.size, 0, none⟩, .int .i64 x1), (⟨w.heap.size, 1, none⟩, .int .i64 x2), (⟨w.heap.size, 2, none⟩, .int .i64 x3), (⟨w.heap.size, 3, none⟩, .int .i64 x4)] := ⟨HS.out.1.cell 0, c0, c1, c2, c3, trivial⟩
  refine rfree [0, 1, 2, 3, 4] 1 (by kernel_rfl) (fun _ _ _ _ _ h => h) C0 ?_
  intro hne hu; try simp only [AllCells] at hu
  simp only [pick, pk]
  repeat (go_big_quiet_step (fail))
  refine wpQuiet_nil ?_; clear hne hu
  refine anyN_oneL 5 (by kernel_rfl) ?_; simp only [pk]
  cases m with
  | none =>
    refine wpList_delete_nil keyCell _ rfl _ _ _ _ rfl _ Tryz.underlying114 rfl ((x1, x2), (x3, x4)) rfl ?_
    go_wp2_with fail
    try simp only [Act.put, List.setIfInBounds_toArray, List.set_cons_succ, List.set_cons_zero]
    first | refine And.intro (fun _ => C0) ?_ | refine And.intro C0 ?_ | skip
    refine ⟨by kernel_rfl, ?_⟩
    go_wp2_with fail
    go_ret
    have h0 : kvs = [] := HS.out.2
    exact ⟨rfl, none, ⟨HS.out.1, by subst h0; rfl⟩, .inl rfl, Chg.of B2.out.below.drew⟩
  | some b =>
    have HM : MapG celv w2.drew b (kvv kvs) := HS.out.2
    have hpb : pS ≠ b := fun e => by
      obtain ⟨es, cl, h1, -⟩ := HM
      have h2 := HS.out.1
      unfold Blk at h2
      rw [e] at h2
      rw [show w2.drew.heap[b]? = w2.heap[b]? from rfl, h2] at h1
      cases h1
    have HPB := Lib.hid hpb
    have HML := Lib.hid (show b < w.heap.size from (show MapG celv w b (kvv kvs) from H.out.2).lt)
    refine wpList_delete_g keyCell _ rfl _ _ _ _ rfl _ Tryz.underlying114 b _ rfl HM ((x1, x2), (x3, x4)) rfl ?_
    intro w3 hm3 hg3 hs3
    have C1 : AllCells w3 _ := AllCells.grown C0 hg3.out (by simp only [List.mem_cons, List.not_mem_nil, or_false]; rintro p (rfl | rfl | rfl | rfl | rfl) e <;> have := Option.some.inj e <;> have := HML.out <;> have := HPB.out <;> simp only at * <;> omega)
    go_wp2_with fail
    try simp only [Act.put, List.setIfInBounds_toArray, List.set_cons_succ, List.set_cons_zero]
    first | refine And.intro (fun _ => C1) ?_ | refine And.intro C1 ?_ | skip
    refine ⟨by kernel_rfl, ?_⟩
    go_wp2_with fail
    go_ret
    refine ⟨rfl, some b, ⟨HS.out.1.kept (hg3.out.block _ HS.out.1.lt (fun e => by have := Option.some.inj e; exact HPB.out this)), ?_⟩, .inl rfl, (Chg.of B2.out.below.drew).grew hg3.out (fun k e _ hk => by cases e; exact hk.2 rfl)⟩
    show MapG celv w3 b (kvv _)
    rw [kvv_del]
    exact hm3.out
end Go.Proofs.YtoicnghjjgkebaaGreatDoor
namespace Go.Proofs.YtoicnghjjgkebaaGreatDoor
open Go.RowKit Go.Shelf
attribute [local go_sem] Oper.semAt_some
section
variable {K : Type} [DecidableEq K] {enc : K → Value} {T : TypeId}
variable {ops : Array Oper} {rest : List Oper} {o : Oper} {a : Act} {Q : Exit → Act → World → Prop}
theorem wpList_look_nil {w : World} (hk : KeyT T enc) (hg : o.guard = none) (m x : Operand) (M : TypeId) (hop : o.op = .lookup M m x true) (E : TypeId) (hT : Tryz.prog.underlying M = some (.map T E)) {z : Value} (hz : (zeroValue E).run Tryz.prog w = .ok z w)
    (hm : a.eval m = .map none) (k : K) (hx : a.eval x = enc k) (hK : wpList Tryz.prog ops Q rest (a.put o.dst (.tuple #[z, .bool false])) w) : wpList Tryz.prog ops Q (o :: rest) a w := by
  refine Great.wpList_runTo hg o.dst rfl _ _ ?_ hK
  have := lookNone hk w hT hz k true
  rw [if_pos rfl] at this
  simp only [execOp, hop, hm, hx, Sem.run_bind, Sem.run_pure, this, Result.andThen_ok]
theorem wpList_lenG {w : World} (hw : Region.wanted o (yielded ops a.tmps) = true) (m : Operand) (M : TypeId) (hop : o.op = Op.call { callee := Callee.builtin Builtin.len, args := #[m], argTypes := #[M] }) (E : TypeId) (hT : Tryz.prog.underlying M = some (.map T E)) (s : Nat) (l : List (K × Value))
    (hm : a.eval m = .map (some s)) (h : MapG enc w s l) (hK : wpList Tryz.prog ops Q rest (a.put o.dst (.int .i64 l.length)) w) : wpList Tryz.prog ops Q (o :: rest) a w :=
  BigFrame.wpList_want hw fun K' hK' => by
    have hrun := run_len_g h hT o.type
    unfold Oper.wp
    simp [execOp, hop, resolve, invoke, builtin, hm, hrun, Result.andThen]
    exact hK' _ _ hK
end
@[go_sem ↓] theorem Tryz.makeN_sto (w : World) : (Instr.makeMap 114 none).run Tryz.prog w = .ok (.map (some w.heap.size)) (w.alloc (.map #[] 0)) := by kernel_rfl
@[go_sem ↓] theorem Tryz.eqlnil_sto (w : World) (r : Option Nat) : (binOp .eql 114 (.map r) (.map none)).run Tryz.prog w = .ok (.bool r.isNone) w := run_eql_map_nil w _ _ _ r Tryz.underlying114
set_option maxRecDepth 100000 in
set_option maxHeartbeats 2000000 in
theorem put1_none (A : Option Addr) (c : Nat) (pS : Nat) (kvs : List (Cel × Val)) (h12 : kvs.length ≤ 12) (x : Cel) (v : Val) (w : World) (h : StA w pS none kvs) (hx : (!(ideq x.1.1 x.1.2 0 0) && !(ideq x.2.1 x.2.2 0 0)) = true) (hv : v.kind ≠ 0) (hr : RightV v) (h1 : -9223372036854775808 ≤ v.mant) (h2 : v.mant ≤ 9223372036854775807) (h3 : -9223372036854775808 ≤ v.exp) (h4 : v.exp ≤ 9223372036854775807) :
    Calls Tryz.prog 13 #[.pointer (some ⟨pS, 0, none⟩), .agg x.cs.toArray, .agg (ccs 1 v (zt A c)).toArray] w (PutP pS none (putG x v kvs) w) := by
  obtain ⟨cf, hcf⟩ : ∃ cf : List Value, cf = ctZ := ⟨_, rfl⟩
  have HCF := Lib.hid (show cf.length = 29 ∧ ∀ u ∈ cf, u.oneCell' = true by rw [hcf]; exact ⟨rfl, by decide⟩)
  have HCZ := Lib.hid hcf
  have HZC := Lib.hid (show ∀ w, (zeroValue 42).run Tryz.prog w = .ok (.agg cf.toArray) w by rw [hcf]; exact zeroCt)
  clear hcf
  have B0 := Lib.hid (Bxs.start w [(29, x.cs.toArray), (42, (ccs 1 v (zt A c)).toArray)])
  simp only [allocAll] at B0
  have HI := Lib.hid (isCell_c x)
  rw [hx] at HI
  have HRt := Lib.hid (cright_c 1 v A c (.inr ⟨rfl, hv, hr⟩) h1 h2 h3 h4)
  have HCP := Lib.hid (copied_c v (zt A c) rfl)
  have H := Lib.hid h
  have H12 := Lib.hid h12
  have hl0 : Hid ((ccs 1 v (zt A c)).length = 29) := Lib.hid rfl
  obtain ⟨⟨x1, x2⟩, x3, x4⟩ := x
  obtain ⟨cs, hcs⟩ : ∃ cs, cs = ccs 1 v (zt A c) := ⟨_, rfl⟩
  rw [← hcs] at B0 HRt hl0 HCP ⊢
  have HCS := Lib.hid hcs
  simp only [Cel.cs] at B0 HI ⊢
  clear h hx hcs hr h1 h2 h3 h4 hv h12
  obtain ⟨c0, c1, c2, c3⟩ := (show Blk _ w.heap.size 29 #[.int .i64 x1, .int .i64 x2, .int .i64 x3, .int .i64 x4] from B0.out.box 0 _ _ rfl).four.1
  have d0 := (ct_box (show Blk _ (w.heap.size + 1) 42 _ from by rw [← HCS.out]; exact B0.out.box 1 _ _ rfl)).1.1
  have lc := Lib.hid (Seg.of (show Blk _ (w.heap.size + 1) 42 cs.toArray from B0.out.box 1 _ _ rfl)).lies
  go_enter Tryz.func13, Tryz.ntmps13
  go_wp2_with fail
  refine (HI.out _).mono ?_
  rintro _ w1 ⟨rfl, b1⟩
  have B1 := Lib.hid (B0.out.next b1)
  clear c0 c1 c2 c3 d0 lc b1 B0
  obtain ⟨c0, c1, c2, c3⟩ := (show Blk _ w.heap.size 29 #[.int .i64 x1, .int .i64 x2, .int .i64 x3, .int .i64 x4] from B1.out.box 0 _ _ rfl).four.1
  have d0 := (ct_box (show Blk _ (w.heap.size + 1) 42 _ from by rw [← HCS.out]; exact B1.out.box 1 _ _ rfl)).1.1
  have lc := Lib.hid (Seg.of (show Blk _ (w.heap.size + 1) 42 cs.toArray from B1.out.box 1 _ _ rfl)).lies
  go_wp2_with (first | refine ld_step cont_row rfl _ rfl _ _ rfl hl0.out lc.out ?_ | fail)
  refine (HRt.out _).mono ?_
  rintro _ w2 ⟨rfl, b2⟩
  have B2 := Lib.hid (B1.out.next b2)
  clear c0 c1 c2 c3 d0 lc b2 B1
  obtain ⟨c0, c1, c2, c3⟩ := (show Blk _ w.heap.size 29 #[.int .i64 x1, .int .i64 x2, .int .i64 x3, .int .i64 x4] from B2.out.box 0 _ _ rfl).four.1
  have d0 := (ct_box (show Blk _ (w.heap.size + 1) 42 _ from by rw [← HCS.out]; exact B2.out.box 1 _ _ rfl)).1.1
  have lc := Lib.hid (Seg.of (show Blk _ (w.heap.size + 1) 42 cs.toArray from B2.out.box 1 _ _ rfl)).lies
  go_upto_region 8 with fail
  clear lc d0
  obtain ⟨V2, HHV⟩ : ∃ V2, Hid (V2 = w2.drew) := ⟨_, Lib.hid rfl⟩
  have BV := Lib.hid (show Bxs w V2 _ by rw [HHV.out]; exact B2.out.next (Below.refl _ _).drew)
  have HS := Lib.hid (show StA V2 pS none kvs from ⟨H.out.1.kept (BV.out.below.block _ H.out.1.lt), H.out.2.kept (fun b e => by cases e <;> exact BV.out.below.block _ (show MapG celv w b (kvv kvs) from H.out.2).lt)⟩)
  have C0 : AllCells V2 [(⟨pS, 0, none⟩, .map none), (⟨w.heap.size, 0, none⟩, .int .i64 x1), (⟨w.heap.size, 1, none⟩, .int .i64 x2), (⟨w.heap.size, 2, none⟩, .int .i64 x3), (⟨w.heap.size, 3, none⟩, .int .i64 x4)] := ⟨HS.out.1.cell 0, by rw [HHV.out]; exact c0, by rw [HHV.out]; exact c1, by rw [HHV.out]; exact c2, by rw [HHV.out]; exact c3, trivial⟩
  have bZ : Below V2.heap.size V2 (V2.alloc (.cells ctZ.toArray 42)) := (Below.refl _ _).alloc (Nat.le_refl _) _
  have bX : Below V2.heap.size V2 (V2.alloc (.cells cf.toArray 42)) := (Below.refl _ _).alloc (Nat.le_refl _) _
  have C1 := AllCells.below C0 bZ
  have C2 := AllCells.below C0 bX
  have HBX := Lib.hid bX
  have HBZ := Lib.hid bZ
  have hlz : Hid (ctZ.length = 29) := Lib.hid rfl
  clear bZ bX c0 c1 c2 c3
  refine wp_fin ?A (V2.alloc (.cells cf.toArray 42)) ?fin ?main
  case main =>
    intro hfin
    have HF := Lib.hid hfin
    clear hfin
    have C0V : AllCells w2.drew [(⟨pS, 0, none⟩, .map none), (⟨w.heap.size, 0, none⟩, .int .i64 x1), (⟨w.heap.size, 1, none⟩, .int .i64 x2), (⟨w.heap.size, 2, none⟩, .int .i64 x3), (⟨w.heap.size, 3, none⟩, .int .i64 x4)] := by rw [← HHV.out]; exact C0
    refine rfree [0, 1, 2, 3, 4] 7 (by kernel_rfl) (fun _ _ _ _ _ h => h) C0V ?_
    intro hne hu; try simp only [AllCells] at hu
    simp only [pick, pk]
    repeat (go_big_quiet_step (fail))
    refine wpQuiet_nil ?_; clear hne hu
    rw [← HHV.out]
    clear C0V
    refine anyN_twoL 5 9 (by kernel_rfl) ?_ ?_ <;> simp only [pk]
    · skip
      refine wpList_look_nil keyCell rfl _ _ _ rfl _ Tryz.underlying114 (HZC.out _) rfl ((x1, x2), (x3, x4)) rfl ?_
      go_wp2_with fail
      try simp only [Act.put, List.setIfInBounds_toArray, List.set_cons_succ, List.set_cons_zero]
      first | refine And.intro (fun _ => C0) ?_ | refine And.intro C0 ?_ | skip
      refine rmore [6, 7, 8] 3 (by kernel_rfl) (fun _ _ _ _ _ h => h) C0 ?_
      intro hne hu; try simp only [AllCells] at hu
      simp only [pick, pk]
      repeat (go_big_quiet_step (fail))
      refine wpQuiet_nil ?_; clear hne hu
      refine anyN_oneL 9 (by kernel_rfl) ?_; simp only [pk]
      go_wp2_with fail
      first | refine And.intro (fun _ => C1) ?_ | refine And.intro C1 ?_ | skip
      refine anyN_oneL 10 (by kernel_rfl) ?_; simp only [pk]
      go_wp2_with (refine st_new cont_row rfl _ _ rfl (cs := cf) (z := ctZ) rfl rfl HCF.out.1 hlz.out HCF.out.2 ?_)
      try simp only [Act.put, List.setIfInBounds_toArray, List.set_cons_succ, List.set_cons_zero]
      first | refine And.intro (fun _ => C2) ?_ | refine And.intro C2 ?_ | skip
      refine rmore [11] 0 (by kernel_rfl) (fun _ _ _ _ _ h => h) C2 ?_
      intro hne hu; try simp only [AllCells] at hu
      simp only [pick, pk]
      repeat (go_big_quiet_step (fail))
      refine wpQuiet_nil ?_; clear hne hu
      refine ⟨by kernel_rfl, ?_⟩
      exact HF.out
    · go_wp2_with fail
      first | refine And.intro (fun _ => C1) ?_ | refine And.intro C1 ?_ | skip
      refine anyN_oneL 5 (by kernel_rfl) ?_; simp only [pk]
      refine wpList_look_nil keyCell rfl _ _ _ rfl _ Tryz.underlying114 (HZC.out _) rfl ((x1, x2), (x3, x4)) rfl ?_
      go_wp2_with fail
      try simp only [Act.put, List.setIfInBounds_toArray, List.set_cons_succ, List.set_cons_zero]
      first | refine And.intro (fun _ => C1) ?_ | refine And.intro C1 ?_ | skip
      refine rmore [6, 7, 8] 2 (by kernel_rfl) (fun _ _ _ _ _ h => h) C1 ?_
      intro hne hu; try simp only [AllCells] at hu
      simp only [pick, pk]
      repeat (go_big_quiet_step (fail))
      refine wpQuiet_nil ?_; clear hne hu
      refine anyN_oneL 10 (by kernel_rfl) ?_; simp only [pk]
      go_wp2_with (refine st_new cont_row rfl _ _ rfl (cs := cf) (z := ctZ) rfl rfl HCF.out.1 hlz.out HCF.out.2 ?_)
      try simp only [Act.put, List.setIfInBounds_toArray, List.set_cons_succ, List.set_cons_zero]
      first | refine And.intro (fun _ => C2) ?_ | refine And.intro C2 ?_ | skip
      refine rmore [11] 0 (by kernel_rfl) (fun _ _ _ _ _ h => h) C2 ?_
      intro hne hu; try simp only [AllCells] at hu
      simp only [pick, pk]
      repeat (go_big_quiet_step (fail))
      refine wpQuiet_nil ?_; clear hne hu
      refine ⟨by kernel_rfl, ?_⟩
      exact HF.out
  case fin =>
    clear C0 C1 C2
    have B3 := Lib.hid (BV.out.next HBX.out)
    have HS3 := Lib.hid (show StA (V2.alloc (.cells cf.toArray 42)) pS none kvs from ⟨HS.out.1.kept (HBX.out.block _ HS.out.1.lt), HS.out.2.kept (fun b e => by cases e <;> exact HBX.out.block _ (show MapG celv V2 b (kvv kvs) from HS.out.2).lt)⟩)
    generalize V2.alloc (.cells cf.toArray 42) = V3 at *
    have X0 := Lib.hid (show Blk V3 w.heap.size 29 #[.int .i64 x1, .int .i64 x2, .int .i64 x3, .int .i64 x4] from B3.out.box 0 _ _ rfl)
    have X1 := Lib.hid (show Blk V3 (w.heap.size + 1) 42 cs.toArray from B3.out.box 1 _ _ rfl)
    have HBB := Lib.hid (show V3.heap.size < w.heap.size ∨ w.heap.size + 1 < V3.heap.size from .inr X1.out.lt)
    have HPL := Lib.hid (show pS < w.heap.size from H.out.1.lt)
    have HA := Lib.hid (HS3.out.1.kept (w' := V3.alloc (.map #[] 0)) (Below.heap_alloc _ _ _ HS3.out.1.lt))
    have c0 := HS3.out.1.cell 0
    have f0 := HS3.out.1.frozen 0
    have c1 := HA.out.cell 0
    have f1 := HA.out.frozen 0
    simp only [List.getElem?_toArray, List.getElem?_cons_zero] at c0 c1
    go_upto_region 13 with fail
    clear c0 f0 c1 f1
    have h0 : kvs = [] := H.out.2
    have hk : ∀ k, k ≠ pS → k < V3.heap.size → ((V3.alloc (.map #[] 0)).setCell ⟨pS, 0, none⟩ (.map (some V3.heap.size))).heap[k]? = V3.heap[k]? := fun k h1 h2 => (Below.heap_setCell _ _ _ _ h1).trans (Below.heap_alloc _ _ _ h2)
    have HS4 := Lib.hid (show StA ((V3.alloc (.map #[] 0)).setCell ⟨pS, 0, none⟩ (.map (some V3.heap.size))) pS (some V3.heap.size) kvs from ⟨HA.out.store 0 _, by
      subst h0
      exact (MapG.made (enc := celv) V3).kept (Below.heap_setCell _ _ _ _ (fun e => by have e2 : V3.heap.size = pS := e; have := HPL.out; have := HS3.out.1.lt; omega))⟩)
    have HC4 := Lib.hid (show Chg (fun k => k ≠ pS ∧ (none : Option Nat) ≠ some k) w ((V3.alloc (.map #[] 0)).setCell ⟨pS, 0, none⟩ (.map (some V3.heap.size))) from ((Chg.of B3.out.below).alloc _).set (fun _ h => h.1 rfl) _)
    have X0 := Lib.hid (X0.out.kept (hk _ (by have := HPL.out; omega) X0.out.lt))
    have X1 := Lib.hid (X1.out.kept (hk _ (by have := HPL.out; omega) X1.out.lt))
    have HW0 := Lib.hid (show w.heap.size ≤ V3.heap.size from B3.out.below.size)
    have HGR := Lib.hid (show ∀ k, some V3.heap.size = some k → k < w.heap.size → ¬ (k ≠ pS ∧ (none : Option Nat) ≠ some k) from fun k e hk2 => by cases e; have := B3.out.below.size; omega)
    clear hk h0
    generalize (V3.alloc (.map #[] 0)).setCell ⟨pS, 0, none⟩ (.map (some V3.heap.size)) = V4 at *
    generalize V3.heap.size = b at *
    have hpb : pS ≠ b := fun e => by
      obtain ⟨es, cl, g1, -⟩ := (show MapG celv V4 b (kvv kvs) from HS4.out.2)
      have g2 := HS4.out.1
      unfold Blk at g2
      rw [e, g1] at g2
      cases g2
    have HPB := Lib.hid hpb
    clear hpb
    have ⟨c0, c1, c2, c3⟩ := X0.out.four.1
    have lc := Lib.hid (Seg.of X1.out).lies
    have C4 : AllCells V4.drew [(⟨pS, 0, none⟩, .map (some b)), (⟨w.heap.size, 0, none⟩, .int .i64 x1), (⟨w.heap.size, 1, none⟩, .int .i64 x2), (⟨w.heap.size, 2, none⟩, .int .i64 x3), (⟨w.heap.size, 3, none⟩, .int .i64 x4)] := ⟨HS4.out.1.cell 0, c0, c1, c2, c3, trivial⟩
    have lc4 := Lib.hid (show V4.drew.rangeAt (w.heap.size + 1) 0 cs from lc.out)
    clear c0 c1 c2 c3 lc
    go_upto_region 13 with fail
    refine rfree [0, 1, 2, 3, 4] 3 (by kernel_rfl) (fun _ _ _ _ _ h => h) C4 ?_
    intro hne hu; try simp only [AllCells] at hu
    simp only [pick, pk]
    repeat (go_big_quiet_step (fail))
    refine wpQuiet_nil ?_; clear hne hu
    refine anyN_oneL 5 (by kernel_rfl) ?_; simp only [pk]
    refine ld_step cont_row rfl _ rfl _ _ rfl hl0.out lc4.out ?_
    go_wp2_with fail
    try simp only [Act.put, List.setIfInBounds_toArray, List.set_cons_succ, List.set_cons_zero]
    first | refine And.intro (fun _ => C4) ?_ | refine And.intro C4 ?_ | skip
    refine anyN_oneL 6 (by kernel_rfl) ?_; simp only [pk]
    go_wp2_with fail
    refine (HCP.out _).mono ?_
    rintro _ V5 ⟨rfl, b5⟩
    have C5 := AllCells.below C4 b5
    have HS5 := Lib.hid (show MapG celv V5 b (kvv kvs) from (show MapG celv V4.drew b (kvv kvs) from HS4.out.2).kept (b5.block _ (show MapG celv V4 b (kvv kvs) from HS4.out.2).lt))
    have HP5 := Lib.hid (show Blk V5 pS 116 #[.map (some b)] from HS4.out.1.kept (b5.block _ HS4.out.1.lt))
    have HC5 := Lib.hid (HC4.out.next ((Below.refl _ V4).drew.trans b5))
    clear b5 C4 lc4
    go_wp2_with fail
    first | refine And.intro (fun _ => C5) ?_ | refine And.intro C5 ?_ | skip
    refine anyN_oneL 7 (by kernel_rfl) ?_; simp only [pk]
    refine wpList_mapUpdate_g keyCell _ rfl _ _ _ _ rfl _ Tryz.underlying114 b _ rfl HS5.out ((x1, x2), (x3, x4)) (ctv v) rfl rfl ?_
    intro w3 hm3 hg3 hs3
    have C6 : AllCells w3 _ := AllCells.grown C5 hg3.out (by simp only [List.mem_cons, List.not_mem_nil, or_false]; rintro p (rfl | rfl | rfl | rfl | rfl) e <;> have := Option.some.inj e <;> have := HBB.out <;> have := HPB.out <;> simp only at * <;> omega)
    go_wp2_with fail
    try simp only [Act.put, List.setIfInBounds_toArray, List.set_cons_succ, List.set_cons_zero]
    first | refine And.intro (fun _ => C6) ?_ | refine And.intro C6 ?_ | skip
    refine ⟨by kernel_rfl, ?_⟩
    go_wp2_with fail
    go_ret
    refine ⟨rfl, some b, ⟨HP5.out.kept (hg3.out.block _ HP5.out.lt (fun e => by have := Option.some.inj e; exact HPB.out this)), ?_⟩, .inr ⟨rfl, _, rfl, HW0.out⟩, HC5.out.grew hg3.out HGR.out⟩
    show MapG celv w3 b (kvv _)
    rw [kvv_put]
    exact hm3.out
set_option maxRecDepth 100000 in
set_option maxHeartbeats 2000000 in
theorem put1_some (A : Option Addr) (c : Nat) (pS b : Nat) (kvs : List (Cel × Val)) (h12 : kvs.length ≤ 12) (x : Cel) (v : Val) (w : World) (h : StA w pS (some b) kvs) (hx : (!(ideq x.1.1 x.1.2 0 0) && !(ideq x.2.1 x.2.2 0 0)) = true) (hv : v.kind ≠ 0) (hr : RightV v) (h1 : -9223372036854775808 ≤ v.mant) (h2 : v.mant ≤ 9223372036854775807) (h3 : -9223372036854775808 ≤ v.exp) (h4 : v.exp ≤ 9223372036854775807) :
    Calls Tryz.prog 13 #[.pointer (some ⟨pS, 0, none⟩), .agg x.cs.toArray, .agg (ccs 1 v (zt A c)).toArray] w (PutP pS (some b) (putG x v kvs) w) := by
  have HG9 : ∃ (cf : List Value) (bb : Bool), (cf.length = 29 ∧ ∀ u ∈ cf, u.oneCell' = true) ∧ (getG x (kvv kvs)).getD (.agg ctZ.toArray) = .agg cf.toArray ∧ (getG x (kvv kvs)).isSome = bb := by
    rw [kvv_get]
    cases getG x kvs with
    | none => exact ⟨ctZ, false, ⟨rfl, by decide⟩, rfl, rfl⟩
    | some u => exact ⟨ctc u, true, ⟨rfl, ctc_ones u⟩, rfl, rfl⟩
  obtain ⟨cf, bb, hcf, hg⟩ := HG9
  have HCF := Lib.hid hcf
  have HG := Lib.hid hg
  clear hcf hg
  have B0 := Lib.hid (Bxs.start w [(29, x.cs.toArray), (42, (ccs 1 v (zt A c)).toArray)])
  simp only [allocAll] at B0
  have HI := Lib.hid (isCell_c x)
  rw [hx] at HI
  have HRt := Lib.hid (cright_c 1 v A c (.inr ⟨rfl, hv, hr⟩) h1 h2 h3 h4)
  have HCP := Lib.hid (copied_c v (zt A c) rfl)
  have H := Lib.hid h
  have H12 := Lib.hid h12
  have hl0 : Hid ((ccs 1 v (zt A c)).length = 29) := Lib.hid rfl
  obtain ⟨⟨x1, x2⟩, x3, x4⟩ := x
  obtain ⟨cs, hcs⟩ : ∃ cs, cs = ccs 1 v (zt A c) := ⟨_, rfl⟩
  rw [← hcs] at B0 HRt hl0 HCP ⊢
  have HCS := Lib.hid hcs
  simp only [Cel.cs] at B0 HI ⊢
  clear h hx hcs hr h1 h2 h3 h4 hv h12
  obtain ⟨c0, c1, c2, c3⟩ := (show Blk _ w.heap.size 29 #[.int .i64 x1, .int .i64 x2, .int .i64 x3, .int .i64 x4] from B0.out.box 0 _ _ rfl).four.1
  have d0 := (ct_box (show Blk _ (w.heap.size + 1) 42 _ from by rw [← HCS.out]; exact B0.out.box 1 _ _ rfl)).1.1
  have lc := Lib.hid (Seg.of (show Blk _ (w.heap.size + 1) 42 cs.toArray from B0.out.box 1 _ _ rfl)).lies
  go_enter Tryz.func13, Tryz.ntmps13
  go_wp2_with fail
  refine (HI.out _).mono ?_
  rintro _ w1 ⟨rfl, b1⟩
  have B1 := Lib.hid (B0.out.next b1)
  clear c0 c1 c2 c3 d0 lc b1 B0
  obtain ⟨c0, c1, c2, c3⟩ := (show Blk _ w.heap.size 29 #[.int .i64 x1, .int .i64 x2, .int .i64 x3, .int .i64 x4] from B1.out.box 0 _ _ rfl).four.1
  have d0 := (ct_box (show Blk _ (w.heap.size + 1) 42 _ from by rw [← HCS.out]; exact B1.out.box 1 _ _ rfl)).1.1
  have lc := Lib.hid (Seg.of (show Blk _ (w.heap.size + 1) 42 cs.toArray from B1.out.box 1 _ _ rfl)).lies
  go_wp2_with (first | refine ld_step cont_row rfl _ rfl _ _ rfl hl0.out lc.out ?_ | fail)
  refine (HRt.out _).mono ?_
  rintro _ w2 ⟨rfl, b2⟩
  have B2 := Lib.hid (B1.out.next b2)
  clear c0 c1 c2 c3 d0 lc b2 B1
  obtain ⟨c0, c1, c2, c3⟩ := (show Blk _ w.heap.size 29 #[.int .i64 x1, .int .i64 x2, .int .i64 x3, .int .i64 x4] from B2.out.box 0 _ _ rfl).four.1
  have d0 := (ct_box (show Blk _ (w.heap.size + 1) 42 _ from by rw [← HCS.out]; exact B2.out.box 1 _ _ rfl)).1.1
  have lc := Lib.hid (Seg.of (show Blk _ (w.heap.size + 1) 42 cs.toArray from B2.out.box 1 _ _ rfl)).lies
  go_upto_region 8 with fail
  clear lc d0
  obtain ⟨V2, HHV⟩ : ∃ V2, Hid (V2 = w2.drew) := ⟨_, Lib.hid rfl⟩
  have BV := Lib.hid (show Bxs w V2 _ by rw [HHV.out]; exact B2.out.next (Below.refl _ _).drew)
  have HS := Lib.hid (show StA V2 pS (some b) kvs from ⟨H.out.1.kept (BV.out.below.block _ H.out.1.lt), H.out.2.kept (fun b e => by cases e <;> exact BV.out.below.block _ (show MapG celv w b (kvv kvs) from H.out.2).lt)⟩)
  have C0 : AllCells V2 [(⟨pS, 0, none⟩, .map (some b)), (⟨w.heap.size, 0, none⟩, .int .i64 x1), (⟨w.heap.size, 1, none⟩, .int .i64 x2), (⟨w.heap.size, 2, none⟩, .int .i64 x3), (⟨w.heap.size, 3, none⟩, .int .i64 x4)] := ⟨HS.out.1.cell 0, by rw [HHV.out]; exact c0, by rw [HHV.out]; exact c1, by rw [HHV.out]; exact c2, by rw [HHV.out]; exact c3, trivial⟩
  have bZ : Below V2.heap.size V2 (V2.alloc (.cells ctZ.toArray 42)) := (Below.refl _ _).alloc (Nat.le_refl _) _
  have bX : Below V2.heap.size V2 (V2.alloc (.cells cf.toArray 42)) := (Below.refl _ _).alloc (Nat.le_refl _) _
  have C1 := AllCells.below C0 bZ
  have C2 := AllCells.below C0 bX
  have HBX := Lib.hid bX
  have HBZ := Lib.hid bZ
  have hlz : Hid (ctZ.length = 29) := Lib.hid rfl
  clear bZ bX c0 c1 c2 c3
  refine wp_fin ?A (V2.alloc (.cells cf.toArray 42)) ?fin ?main
  case main =>
    intro hfin
    have HF := Lib.hid hfin
    clear hfin
    have C0V : AllCells w2.drew [(⟨pS, 0, none⟩, .map (some b)), (⟨w.heap.size, 0, none⟩, .int .i64 x1), (⟨w.heap.size, 1, none⟩, .int .i64 x2), (⟨w.heap.size, 2, none⟩, .int .i64 x3), (⟨w.heap.size, 3, none⟩, .int .i64 x4)] := by rw [← HHV.out]; exact C0
    refine rfree [0, 1, 2, 3, 4] 7 (by kernel_rfl) (fun _ _ _ _ _ h => h) C0V ?_
    intro hne hu; try simp only [AllCells] at hu
    simp only [pick, pk]
    repeat (go_big_quiet_step (fail))
    refine wpQuiet_nil ?_; clear hne hu
    rw [← HHV.out]
    clear C0V
    refine anyN_twoL 5 9 (by kernel_rfl) ?_ ?_ <;> simp only [pk]
    · skip
      refine wpList_look_g keyCell rfl _ _ _ rfl _ Tryz.underlying114 (zeroCt _) _ _ rfl (show MapG celv _ b (kvv kvs) from HS.out.2) ((x1, x2), (x3, x4)) rfl HG.out.1 HG.out.2 ?_
      go_wp2_with fail
      try simp only [Act.put, List.setIfInBounds_toArray, List.set_cons_succ, List.set_cons_zero]
      first | refine And.intro (fun _ => C0) ?_ | refine And.intro C0 ?_ | skip
      refine rmore [6, 7, 8] 3 (by kernel_rfl) (fun _ _ _ _ _ h => h) C0 ?_
      intro hne hu; try simp only [AllCells] at hu
      simp only [pick, pk]
      repeat (go_big_quiet_step (fail))
      refine wpQuiet_nil ?_; clear hne hu
      refine anyN_oneL 9 (by kernel_rfl) ?_; simp only [pk]
      go_wp2_with fail
      first | refine And.intro (fun _ => C1) ?_ | refine And.intro C1 ?_ | skip
      refine anyN_oneL 10 (by kernel_rfl) ?_; simp only [pk]
      go_wp2_with (refine st_new cont_row rfl _ _ rfl (cs := cf) (z := ctZ) rfl rfl HCF.out.1 hlz.out HCF.out.2 ?_)
      try simp only [Act.put, List.setIfInBounds_toArray, List.set_cons_succ, List.set_cons_zero]
      first | refine And.intro (fun _ => C2) ?_ | refine And.intro C2 ?_ | skip
      refine rmore [11] 0 (by kernel_rfl) (fun _ _ _ _ _ h => h) C2 ?_
      intro hne hu; try simp only [AllCells] at hu
      simp only [pick, pk]
      repeat (go_big_quiet_step (fail))
      refine wpQuiet_nil ?_; clear hne hu
      refine ⟨by kernel_rfl, ?_⟩
      exact HF.out
    · go_wp2_with fail
      first | refine And.intro (fun _ => C1) ?_ | refine And.intro C1 ?_ | skip
      refine anyN_oneL 5 (by kernel_rfl) ?_; simp only [pk]
      refine wpList_look_g keyCell rfl _ _ _ rfl _ Tryz.underlying114 (zeroCt _) _ _ rfl (show MapG celv _ b (kvv kvs) from (HS.out.2.kept (w' := V2.alloc (.cells ctZ.toArray 42)) (fun b e => by cases e <;> exact HBZ.out.block _ (show MapG celv V2 b (kvv kvs) from HS.out.2).lt))) ((x1, x2), (x3, x4)) rfl HG.out.1 HG.out.2 ?_
      go_wp2_with fail
      try simp only [Act.put, List.setIfInBounds_toArray, List.set_cons_succ, List.set_cons_zero]
      first | refine And.intro (fun _ => C1) ?_ | refine And.intro C1 ?_ | skip
      refine rmore [6, 7, 8] 2 (by kernel_rfl) (fun _ _ _ _ _ h => h) C1 ?_
      intro hne hu; try simp only [AllCells] at hu
      simp only [pick, pk]
      repeat (go_big_quiet_step (fail))
      refine wpQuiet_nil ?_; clear hne hu
      refine anyN_oneL 10 (by kernel_rfl) ?_; simp only [pk]
      go_wp2_with (refine st_new cont_row rfl _ _ rfl (cs := cf) (z := ctZ) rfl rfl HCF.out.1 hlz.out HCF.out.2 ?_)
      try simp only [Act.put, List.setIfInBounds_toArray, List.set_cons_succ, List.set_cons_zero]
      first | refine And.intro (fun _ => C2) ?_ | refine And.intro C2 ?_ | skip
      refine rmore [11] 0 (by kernel_rfl) (fun _ _ _ _ _ h => h) C2 ?_
      intro hne hu; try simp only [AllCells] at hu
      simp only [pick, pk]
      repeat (go_big_quiet_step (fail))
      refine wpQuiet_nil ?_; clear hne hu
      refine ⟨by kernel_rfl, ?_⟩
      exact HF.out
  case fin =>
    clear C0 C1 C2
    have B3 := Lib.hid (BV.out.next HBX.out)
    have HS3 := Lib.hid (show StA (V2.alloc (.cells cf.toArray 42)) pS (some b) kvs from ⟨HS.out.1.kept (HBX.out.block _ HS.out.1.lt), HS.out.2.kept (fun b e => by cases e <;> exact HBX.out.block _ (show MapG celv V2 b (kvv kvs) from HS.out.2).lt)⟩)
    generalize V2.alloc (.cells cf.toArray 42) = V3 at *
    have X0 := Lib.hid (show Blk V3 w.heap.size 29 #[.int .i64 x1, .int .i64 x2, .int .i64 x3, .int .i64 x4] from B3.out.box 0 _ _ rfl)
    have X1 := Lib.hid (show Blk V3 (w.heap.size + 1) 42 cs.toArray from B3.out.box 1 _ _ rfl)
    have hbl : b < w.heap.size := (show MapG celv w b (kvv kvs) from H.out.2).lt
    have HBB := Lib.hid (show b < w.heap.size ∨ w.heap.size + 1 < b from .inl hbl)
    have c0 := HS3.out.1.cell 0
    simp only [List.getElem?_toArray, List.getElem?_cons_zero] at c0
    have hkl : ((kvv kvs).length : Int) < 10000 := by have := H12.out; have e : (kvv kvs).length = kvs.length := by simp [kvv]
                                                      omega
    have HLM := Lib.hid (show MapG celv V3 b (kvv kvs) from HS3.out.2)
    have HC4 := Lib.hid (show Chg (fun k => k ≠ pS ∧ some b ≠ some k) w V3 from Chg.of B3.out.below)
    have HS4 := HS3
    have HGR := Lib.hid (show ∀ k, some b = some k → k < w.heap.size → ¬ (k ≠ pS ∧ some b ≠ some k) from fun k e _ hk => hk.2 e)
    cases bb
    all_goals
      go_upto_region 13 with (first | refine wpList_lenG rfl _ _ rfl _ Tryz.underlying114 _ _ rfl HLM.out ?_ | fail)
      clear c0
      generalize V3 = V4 at *
      have hpb : pS ≠ b := fun e => by
        obtain ⟨es, cl, g1, -⟩ := (show MapG celv V4 b (kvv kvs) from HS4.out.2)
        have g2 := HS4.out.1
        unfold Blk at g2
        rw [e, g1] at g2
        cases g2
      have HPB := Lib.hid hpb
      clear hpb
      have ⟨c0, c1, c2, c3⟩ := X0.out.four.1
      have lc := Lib.hid (Seg.of X1.out).lies
      have C4 : AllCells V4.drew [(⟨pS, 0, none⟩, .map (some b)), (⟨w.heap.size, 0, none⟩, .int .i64 x1), (⟨w.heap.size, 1, none⟩, .int .i64 x2), (⟨w.heap.size, 2, none⟩, .int .i64 x3), (⟨w.heap.size, 3, none⟩, .int .i64 x4)] := ⟨HS4.out.1.cell 0, c0, c1, c2, c3, trivial⟩
      have lc4 := Lib.hid (show V4.drew.rangeAt (w.heap.size + 1) 0 cs from lc.out)
      clear c0 c1 c2 c3 lc
      go_upto_region 13 with fail
      refine rfree [0, 1, 2, 3, 4] 3 (by kernel_rfl) (fun _ _ _ _ _ h => h) C4 ?_
      intro hne hu; try simp only [AllCells] at hu
      simp only [pick, pk]
      repeat (go_big_quiet_step (fail))
      refine wpQuiet_nil ?_; clear hne hu
      refine anyN_oneL 5 (by kernel_rfl) ?_; simp only [pk]
      refine ld_step cont_row rfl _ rfl _ _ rfl hl0.out lc4.out ?_
      go_wp2_with fail
      try simp only [Act.put, List.setIfInBounds_toArray, List.set_cons_succ, List.set_cons_zero]
      first | refine And.intro (fun _ => C4) ?_ | refine And.intro C4 ?_ | skip
      refine anyN_oneL 6 (by kernel_rfl) ?_; simp only [pk]
      go_wp2_with fail
      refine (HCP.out _).mono ?_
      rintro _ V5 ⟨rfl, b5⟩
      have C5 := AllCells.below C4 b5
      have HS5 := Lib.hid (show MapG celv V5 b (kvv kvs) from (show MapG celv V4.drew b (kvv kvs) from HS4.out.2).kept (b5.block _ (show MapG celv V4 b (kvv kvs) from HS4.out.2).lt))
      have HP5 := Lib.hid (show Blk V5 pS 116 #[.map (some b)] from HS4.out.1.kept (b5.block _ HS4.out.1.lt))
      have HC5 := Lib.hid (HC4.out.next ((Below.refl _ V4).drew.trans b5))
      clear b5 C4 lc4
      go_wp2_with fail
      first | refine And.intro (fun _ => C5) ?_ | refine And.intro C5 ?_ | skip
      refine anyN_oneL 7 (by kernel_rfl) ?_; simp only [pk]
      refine wpList_mapUpdate_g keyCell _ rfl _ _ _ _ rfl _ Tryz.underlying114 b _ rfl HS5.out ((x1, x2), (x3, x4)) (ctv v) rfl rfl ?_
      intro w3 hm3 hg3 hs3
      have C6 : AllCells w3 _ := AllCells.grown C5 hg3.out (by simp only [List.mem_cons, List.not_mem_nil, or_false]; rintro p (rfl | rfl | rfl | rfl | rfl) e <;> have := Option.some.inj e <;> have := HBB.out <;> have := HPB.out <;> simp only at * <;> omega)
      go_wp2_with fail
      try simp only [Act.put, List.setIfInBounds_toArray, List.set_cons_succ, List.set_cons_zero]
      first | refine And.intro (fun _ => C6) ?_ | refine And.intro C6 ?_ | skip
      refine ⟨by kernel_rfl, ?_⟩
      go_wp2_with fail
      go_ret
      refine ⟨rfl, some b, ⟨HP5.out.kept (hg3.out.block _ HP5.out.lt (fun e => by have := Option.some.inj e; exact HPB.out this)), ?_⟩, .inl rfl, HC5.out.grew hg3.out HGR.out⟩
      show MapG celv w3 b (kvv _)
      rw [kvv_put]
      exact hm3.out
end Go.Proofs.YtoicnghjjgkebaaGreatDoor
namespace Go.Proofs.YtoicnghjjgkebaaGreatDoor
open Go.RowKit Go.Shelf
attribute [local go_sem] Oper.semAt_some
set_option maxRecDepth 100000 in
set_option maxHeartbeats 1000000 in
theorem cellsnew_c (w : World) : Calls Tryz.prog 29 #[] w fun e w' => e = .returned (.pointer (some ⟨w.heap.size, 0, none⟩)) ∧ w' = w.alloc (.cells #[.map none] 116) := by
  go_enter Tryz.func29, Tryz.ntmps29
  go_wp2
  go_ret
  exact ⟨rfl, rfl⟩
set_option maxRecDepth 100000 in
set_option maxHeartbeats 1000000 in
theorem namesnew_c (w : World) : Calls Tryz.prog 30 #[] w fun e w' => ∃ q, e = .returned (.pointer (some ⟨q, 0, none⟩)) ∧ Below w.heap.size w w' := by
  go_enter Tryz.func30, Tryz.ntmps30
  go_wp2
  go_ret
  exact ⟨_, rfl, (Below.refl _ _).alloc (Nat.le_refl _) _⟩
/-- The first n ids. -/
def idsN (n : Nat) : List Id := (List.range n).map fun i => (0, ((i + 1 : Nat) : Int))
theorem idsN_len (n : Nat) : (idsN n).length = n := by simp [idsN]
theorem idsN_succ (n : Nat) : idsN (n + 1) = idsN n ++ [(0, ((n + 1 : Nat) : Int))] := by simp [idsN, List.range_succ]
theorem mem_idsN (n : Nat) (z : Id) : z ∈ idsN n ↔ z.1 = 0 ∧ 1 ≤ z.2 ∧ z.2 ≤ n := by
  obtain ⟨a, b⟩ := z
  simp only [idsN, List.mem_map, List.mem_range, Prod.mk.injEq]
  constructor
  · rintro ⟨i, hi, rfl, rfl⟩; omega
  · rintro ⟨rfl, h1, h2⟩; exact ⟨(b - 1).toNat, by omega, rfl, by omega⟩
theorem newL_idsN (n : Nat) (h : n ≤ 1000) : newL (idsN n) = idsN n := by
  induction n with
  | zero => rfl
  | succ n ih =>
    have e := ih (by omega)
    unfold newL at e ⊢
    rw [idsN_succ, List.foldl_append, e]
    simp only [List.foldl_cons, List.foldl_nil, newStep]
    rw [if_neg (by rw [idsN_len]; omega), if_neg]
    rintro (h1 | h1)
    · have := congrArg Prod.snd h1; simp at this; omega
    · have := (mem_idsN _ _).1 h1; simp at this; omega
def idf (z : Id) : List Value := [.int .i64 z.1, .int .i64 z.2]
set_option maxRecDepth 100000 in
set_option maxHeartbeats 4000000 in
theorem fresh_c (n : Nat) (hn : n ≤ 1000) (w : World) (own : Tags) (t : Nat) (ht : 0 ≠ t) (ho : ∀ k, own k ≠ 0 → k < w.heap.size) : Calls Tryz.prog 28 #[.int .i64 n] w (NewP w own t (idsN n)) := by
  have n0 : (0 : Int) ≤ (n : Int) := by omega
  have n1 : (n : Int) ≤ 1000 := by omega
  have e1 : max (n : Int) 0 = n := by omega
  have e2 : min (n : Int) 1000 = n := by omega
  have HO := Lib.hid ho
  have HT := Lib.hid ht
  have HN := Lib.hid hn
  have R0 := Lib.hid (show w.ownsRow w.heap.size 27 2 (.slice none 0 0) (idsN 0).length ((idsN 0).flatMap idf) from World.ownsRow_nil _ _ _ _)
  have F0 := Lib.hid (Below.refl w.heap.size w)
  obtain ⟨i0, hi, hz0, hz1, hz2⟩ := info_parts Tryz.info27
  clear ho ht
  go_enter Tryz.func28, Tryz.ntmps28
  go_wp2_with fail
  go_loopw [3, 8] (fun sv iv wx => ∃ i : Nat, i ≤ n ∧ iv = .int .i64 i ∧ Hid (wx.ownsRow w.heap.size 27 2 sv (idsN i).length ((idsN i).flatMap idf)) ∧ Hid (Below w.heap.size w wx)) (fun _ iv _ => n - (intOf iv).toNat)
  case atStart => exact ⟨0, Nat.zero_le _, rfl, R0, F0⟩
  case round =>
    clear R0 F0
    obtain ⟨i, hi2, rfl, hR, hF⟩ := hrel
    by_cases hlt : i < n
    · have hlt2 : (i : Int) < (n : Int) := by omega
      have hi3 : i ≤ 1000 := by omega
      have bl : Below wr.heap.size wr (wr.alloc (.cells #[.int .i64 0, .int .i64 ((i : Int) + 1)] 27)) := (Below.refl _ _).alloc (Nat.le_refl _) _
      have HB1 := Lib.hid (hF.out.trans (bl.mono hF.out.size))
      have HR1 := Lib.hid (ownsRow_kept hR.out (fun g _ hg => bl.block g hg))
      have HLE := Lib.hid (show w.heap.size ≤ (wr.alloc (.cells #[.int .i64 0, .int .i64 ((i : Int) + 1)] 27)).heap.size from Nat.le_trans hF.out.size bl.size)
      have HL : Hid ((idsN i).length < 100000000) := Lib.hid (by rw [idsN_len]; omega)
      clear bl hR hF
      go_wp2_with (refine app_pure (w0 := w) (f := idf) rfl _ _ _ rfl i0 _ 16 Tryz.underlying46 hi hz0 hz1 hz2 rfl (by omega) HB1.out (Nat.le_refl _) HLE.out HR1.out rfl wr.heap.size (0, (i : Int) + 1) rfl (Blk.new wr _ _) rfl (by simp [idf, Value.oneCell']) HL.out (by omega) (fun v' w' b' r' g' => ?_); obtain ⟨A', c', rfl, -⟩ := ownsRow_shape r'; rw [show idsN i ++ [((0 : Int), (i : Int) + 1)] = idsN (i + 1) from (idsN_succ i).symm] at r'; have HQ := Lib.hid (And.intro r' b'); clear r' b' g')
      refine ⟨⟨i + 1, hlt, by simp, Lib.hid ?_, Lib.hid HQ.out.2⟩, by simp [intOf]; omega⟩
      have h := HQ.out.1
      simp only [idsN_len] at h ⊢
      exact h
    · have hlt2 : ¬ (i : Int) < (n : Int) := by omega
      obtain rfl : i = n := by omega
      have HR1 := Lib.hid hR.out
      obtain ⟨A', c', rfl, -⟩ := ownsRow_shape hR.out
      have HI : Hid (IdsR wr own 0 A' (idsN i)) := Lib.hid (fun hl => by
        rcases HR1.out.2 with ⟨hv, h0⟩ | ⟨g, cap, cur, hv, hb, hg, hr⟩
        · exact absurd (List.length_eq_zero_iff.1 h0) hl
        · cases hv
          have hS := seg_row (k := 2) HR1.out
          refine ⟨g, 0, rfl, ?_, (Array.getElem?_eq_some_iff.1 hg).1, fun j hj => ?_⟩
          · rcases Nat.eq_zero_or_pos (own g) with h | h
            · exact h
            · have := HO.out g (by omega); omega
          · have he := seg_el (f := idf) (k := 2) (fun _ => rfl) hS (List.getElem?_eq_getElem hj)
            have h1 := he 0 _ rfl
            have h2 := he 1 _ rfl
            rw [Nat.zero_add]
            exact ⟨h1, h2⟩)
      clear hR
      rw [idsN_len]
      have HC := Lib.hid (new_c A' i c' (idsN i) wr own 0 t HI.out (idsN_len i) (by have := HN.out; unfold maxLen; omega) HT.out)
      have HF := Lib.hid hF.out
      go_wp2_with fail
      refine HC.out.mono ?_
      rintro _ w2 ⟨own', q, rfl, tr, hq, ax⟩
      rw [newL_idsN i HN.out] at ax
      have HX := Lib.hid (show NewP w own t (idsN i) (.returned (.pointer (some ⟨q, 0, none⟩))) w2 from ⟨own', q, rfl, ((Tr.refl own t w).below HF.out).trans tr, Nat.le_trans HF.out.size hq, ax⟩)
      clear tr hq ax HC
      go_wp2_with fail
      go_ret
      exact HX.out
end Go.Proofs.YtoicnghjjgkebaaGreatDoor
namespace Go.Proofs.YtoicnghjjgkebaaGreatDoor
open Go.RowKit Go.Shelf
/-- What sheet.New hands back: two axes, an empty store, the sheet. -/
def SheetP (R C : Nat) (w : World) (e : Ending) (w' : World) : Prop :=
  ∃ own S pR pC pS pN, e = .returned (.pointer (some ⟨S, 0, none⟩)) ∧ ShB w' S pR pC pS pN ∧ StA w' pS none [] ∧ (own pS = 0 ∧ own S = 0 ∧ pS ≠ S ∧ w.heap.size ≤ pS ∧ w.heap.size ≤ S) ∧ AxisAt w' own 1 pR (idsN R) (List.replicate (idsN R).length true) ∧
    AxisAt w' own 2 pC (idsN C) (List.replicate (idsN C).length true) ∧ (∀ k, own k ≠ 0 → k < w'.heap.size ∧ w.heap.size ≤ k) ∧ Below w.heap.size w w'
set_option maxRecDepth 100000 in
set_option maxHeartbeats 2000000 in
theorem sheetnew_c (R C : Nat) (hR : R ≤ 1000) (hC : C ≤ 1000) (w : World) : Calls Tryz.prog 12 #[.int .i64 R, .int .i64 C] w (SheetP R C w) := by
  have H1 := Lib.hid (fresh_c R hR w (fun _ => 0) 1 (by omega) (fun k h => absurd rfl h))
  have H2 := Lib.hid (fun W own h => fresh_c C hC W own 2 (by omega) h)
  have H3 := Lib.hid cellsnew_c
  have H4 := Lib.hid namesnew_c
  clear hR hC
  go_enter Tryz.func12, Tryz.ntmps12
  go_wp2_with fail
  refine H1.out.mono ?_
  rintro _ w1 ⟨own1, pR, rfl, t1, q1, a1⟩
  have T1 := Lib.hid (And.intro t1 (And.intro q1 a1))
  have F1 := Lib.hid (t1.fresh (fun k h => absurd rfl h))
  clear t1 q1 a1
  go_wp2_with fail
  refine (H2.out w1 own1 F1.out).mono ?_
  rintro _ w2 ⟨own2, pC, rfl, t2, q2, a2⟩
  have T2 := Lib.hid (And.intro t2 (And.intro q2 a2))
  have F2 := Lib.hid (t2.fresh F1.out)
  clear t2 q2 a2
  go_wp2_with fail
  refine (H3.out w2).mono ?_
  rintro _ _ ⟨rfl, rfl⟩
  go_wp2_with fail
  refine (H4.out _).mono ?_
  rintro _ w3 ⟨pN, rfl, b3⟩
  have B3 := Lib.hid b3
  clear b3
  go_wp2_with fail
  go_ret
  obtain ⟨t1, q1, a1⟩ := T1.out
  obtain ⟨t2, q2, a2⟩ := T2.out
  have b3 := B3.out
  have f2 := F2.out
  clear T1 T2 B3 F1 F2 H1 H2 H3 H4
  have s12 : w.heap.size ≤ w1.heap.size := t1.size
  have s23 : w1.heap.size ≤ w2.heap.size := t2.size
  have s33 : w2.heap.size + 1 ≤ w3.heap.size := by have := b3.size; simpa using this
  have b23 : Below w2.heap.size w2 w3 := ((Below.refl _ w2).alloc (Nat.le_refl _) _).trans (b3.mono (by simp))
  have b24 := b23.alloc (by omega) (.cells #[.pointer (some ⟨pR, 0, none⟩), .pointer (some ⟨pC, 0, none⟩), .pointer (some ⟨w2.heap.size, 0, none⟩), .pointer (some ⟨pN, 0, none⟩)] 71)
  have z0 : ∀ k, k < w.heap.size → own2 k = 0 := fun k hk => (t2.same k (by omega)).trans (t1.same k hk)
  have zf : ∀ k, w2.heap.size ≤ k → own2 k = 0 := fun k hk => by
    rcases Nat.eq_zero_or_pos (own2 k) with h | h
    · exact h
    · have := f2 k (by omega); omega
  have bw : Below w.heap.size w w2 := ⟨t2.os.trans t1.os, t2.tape.trans t1.tape, t2.output.trans t1.output, by omega, fun k hk => (t2.block k (by omega) (by rw [t1.same k hk]; decide)).trans (t1.block k hk (by decide))⟩
  have hs : Blk w3 w2.heap.size 116 #[.map none] := (Blk.new w2 116 #[.map none]).kept (b3.block _ (by simp))
  refine ⟨own2, w3.heap.size, pR, pC, w2.heap.size, pN, rfl, Blk.new w3 _ _, ⟨hs.kept (Below.heap_alloc _ _ _ (by omega)), rfl⟩, ⟨zf _ (Nat.le_refl _), zf _ (by omega), by omega, by omega, by omega⟩,
    (a1.keep (t2.toSame (by decide))).keep (Same.below b24), a2.keep (Same.below b24), fun k hk => ⟨by have := f2 k hk; simp; omega, ?_⟩, bw.trans (b24.mono (by omega))⟩
  rcases Nat.lt_or_ge k w.heap.size with h | h
  · exact absurd (z0 k h) hk
  · exact h
end Go.Proofs.YtoicnghjjgkebaaGreatDoor
