/-
  spill.New, (*Board).has, Fill: their contracts. Conditions: the board lies in memory; the place lies on it.
  (*rounds).place: its contract. Condition: the rounds lie in memory with the axes' places.
  What a result answers where nothing is a formula: Board.Owner, Result.Owner, Array, Circle, Passes. Condition: the result lies in memory as said.
  (*Result).Value where nothing is a formula: its contract. Condition: the result lies in memory as said.
  cells.Same of zero contents; cells.Right at a content that may be: their contracts. Condition: the tree is the zero one.
-/
import Derived.Test.YtoicnghjjgkebaaGreatDoorN8
import Derived.Laws.ResultCell
set_option linter.unusedSectionVars false
set_option linter.unusedSimpArgs false
set_option linter.unusedVariables false
set_option linter.unnecessarySimpa false
namespace Go.Proofs.YtoicnghjjgkebaaGreatDoor
open Go.RowKit Go.Shelf
attribute [local go_sem] Oper.semAt_some
/-- A board with what has been filled; nothing is asked, nothing spilled. -/
structure SpB (w : World) (B M M4 M5 : Nat) (R C : Nat) (l : List (Id × Value)) : Prop where
  blk : Blk w B 154 #[.int .i64 R, .int .i64 C, .map (some M), .slice none 0 0, .map (some M4), .map (some M5)]
  map : MapG idv w M l
  m4 : MapG idv w M4 []
  m5 : MapG idv w M5 []
  ne : M4 ≠ M ∧ M5 ≠ M
theorem SpB.below {w w' : World} {B M M4 M5 R C : Nat} {l : List (Id × Value)} (h : SpB w B M M4 M5 R C l) (b : Below w.heap.size w w') : SpB w' B M M4 M5 R C l :=
  ⟨h.blk.kept (b.block _ h.blk.lt), h.map.kept (b.block _ h.map.lt), h.m4.kept (b.block _ h.m4.lt), h.m5.kept (b.block _ h.m5.lt), h.ne⟩
theorem SpB.bm {w : World} {B M M4 M5 R C : Nat} {l : List (Id × Value)} (h : SpB w B M M4 M5 R C l) : B ≠ M := fun e => by
  obtain ⟨es, c, h1, -⟩ := h.map
  have h2 := h.blk
  unfold Blk at h2
  rw [e, h1] at h2
  cases h2
def SpP (w : World) (R C : Nat) (e : Ending) (w' : World) : Prop := ∃ B M M4 M5, e = .returned (.pointer (some ⟨B, 0, none⟩)) ∧ (w.heap.size ≤ M ∧ w.heap.size ≤ M4 ∧ w.heap.size ≤ M5) ∧ w.heap.size ≤ B ∧ SpB w' B M M4 M5 R C [] ∧ Below w.heap.size w w'
set_option maxRecDepth 100000 in
set_option maxHeartbeats 2000000 in
theorem spillnew_c (w : World) (R C : Nat) (hR : R ≤ 1000) (hC : C ≤ 1000) : Calls Tryz.prog 64 #[.int .i64 R, .int .i64 C] w (SpP w R C) := by
  have r1 : (R : Int) ≤ 1000 := by omega
  have r2 : (0 : Int) ≤ (R : Int) := by omega
  have c1 : (C : Int) ≤ 1000 := by omega
  have c2 : (0 : Int) ≤ (C : Int) := by omega
  have e1 : max (R : Int) 0 = R := by omega
  have e2 : min (R : Int) 1000 = R := by omega
  have e3 : max (C : Int) 0 = C := by omega
  have e4 : min (C : Int) 1000 = C := by omega
  go_enter Tryz.func64, Tryz.ntmps64
  go_wp2_with fail
  have b1 : Below w.heap.size w (w.alloc (.map #[] 0)) := (Below.refl _ _).alloc (Nat.le_refl _) _
  have b2 := b1.alloc (by simp) (.map #[] 0)
  have b3 := b2.alloc (by simp; omega) (.map #[] 0)
  have b4 := b3.alloc (by simp; omega) (.cells #[.int .i64 R, .int .i64 C, .map (some w.heap.size), .slice none 0 0, .map (some (w.heap.size + 1)), .map (some (w.heap.size + 1 + 1))] 154)
  have m1 := MapG.made (enc := idv) w
  have m2 := MapG.made (enc := idv) (w.alloc (.map #[] 0))
  have m3 := MapG.made (enc := idv) ((w.alloc (.map #[] 0)).alloc (.map #[] 0))
  have m4 := Blk.new (((w.alloc (.map #[] 0)).alloc (.map #[] 0)).alloc (.map #[] 0)) 154 #[.int .i64 R, .int .i64 C, .map (some w.heap.size), .slice none 0 0, .map (some (w.heap.size + 1)), .map (some (w.heap.size + 1 + 1))]
  simp only [World.size_alloc] at m2 m3 m4
  go_ret
  refine ⟨w.heap.size + 1 + 1 + 1, w.heap.size, w.heap.size + 1, w.heap.size + 1 + 1, rfl, ⟨Nat.le_refl _, by omega, by omega⟩, by omega, ⟨m4, ?_, ?_, ?_, by omega, by omega⟩, b4⟩
  · exact ((m1.kept (Below.heap_alloc _ _ _ (by simp))).kept (Below.heap_alloc _ _ _ (by simp <;> omega))).kept (Below.heap_alloc _ _ _ (by simp <;> omega))
  · exact (m2.kept (Below.heap_alloc _ _ _ (by simp))).kept (Below.heap_alloc _ _ _ (by simp <;> omega))
  · exact m3.kept (Below.heap_alloc _ _ _ (by simp))
set_option maxRecDepth 100000 in
set_option maxHeartbeats 2000000 in
theorem has_c (w : World) (B M M4 M5 R C : Nat) (l : List (Id × Value)) (x y : Int) (h : SpB w B M M4 M5 R C l) (hx0 : 0 ≤ x) (hx : x < R) (hy0 : 0 ≤ y) (hy : y < C) :
    Calls Tryz.prog 81 #[.pointer (some ⟨B, 0, none⟩), .agg #[.int .i64 x, .int .i64 y]] w fun e w' => e = .returned (.bool true) ∧ Below w.heap.size w w' := by
  have hb : Below w.heap.size w (w.alloc (.cells #[.int .i64 x, .int .i64 y] 156)) := (Below.refl _ _).alloc (Nat.le_refl _) _
  have hB := Lib.hid (h.blk.kept (hb.block _ h.blk.lt))
  have HB := Lib.hid hb.drew
  have hX := Blk.new w 156 #[.int .i64 x, .int .i64 y]
  have C0 : AllCells (w.alloc (.cells #[.int .i64 x, .int .i64 y] 156)).drew [(⟨B, 0, none⟩, .int .i64 R), (⟨B, 1, none⟩, .int .i64 C), (⟨w.heap.size, 0, none⟩, .int .i64 x), (⟨w.heap.size, 1, none⟩, .int .i64 y)] :=
    ⟨hB.out.cell 0, hB.out.cell 1, hX.cell 0, hX.cell 1, trivial⟩
  clear hb h hX hB
  go_enter Tryz.func81, Tryz.ntmps81
  go_wp2_with fail
  refine rfree [0, 1, 2, 3, 4, 5, 6, 7, 8, 9, 10, 11, 12, 13, 14, 15, 16, 17, 18, 19, 20, 21, 22, 23, 24, 25, 26, 27, 28, 29, 30] 0 (by kernel_rfl) (fun _ _ _ _ _ h => h) C0 ?_
  intro hne hu; try simp only [AllCells] at hu
  simp only [pick, pk]
  repeat (go_big_quiet_step (fail))
  refine wpQuiet_nil ?_; clear hne hu
  refine ⟨by kernel_rfl, ?_⟩
  go_wp2_with fail
  go_ret
  exact ⟨rfl, HB.out⟩
/-- What 'Fill' leaves. -/
def FlP (w : World) (B M M4 M5 R C : Nat) (l : List (Id × Value)) (x y : Int) (e : Ending) (w' : World) : Prop := e = .returned (.bool true) ∧ SpB w' B M M4 M5 R C (putG (x, y) (.bool true) l) ∧ Chg (fun k => k ≠ M) w w'
set_option maxRecDepth 100000 in
set_option maxHeartbeats 2000000 in
theorem fill_c (w : World) (B M M4 M5 R C : Nat) (l : List (Id × Value)) (x y : Int) (h : SpB w B M M4 M5 R C l) (hx0 : 0 ≤ x) (hx : x < R) (hy0 : 0 ≤ y) (hy : y < C) :
    Calls Tryz.prog 68 #[.pointer (some ⟨B, 0, none⟩), .int .i64 x, .int .i64 y] w (FlP w B M M4 M5 R C l x y) := by
  have HH := Lib.hid (has_c w B M M4 M5 R C l x y h hx0 hx hy0 hy)
  have H := Lib.hid h
  clear h
  go_enter Tryz.func68, Tryz.ntmps68
  go_wp2_with fail
  refine HH.out.mono ?_
  rintro _ w1 ⟨rfl, b1⟩
  have H1 := Lib.hid (H.out.below b1)
  have HB := Lib.hid b1
  have c2 := H1.out.blk.cell 2
  have c3 := H1.out.blk.cell 3
  simp only [List.getElem?_toArray, List.getElem?_cons_zero, List.getElem?_cons_succ] at c2 c3
  clear b1
  go_wp2_with (refine wpList_mapUpdate_g keySpot _ rfl _ _ _ _ rfl _ Tryz.underlying149 _ _ rfl H1.out.map (x, y) _ rfl rfl ?_; intro w3 hm3 hg3 hs3; clear c2 c3)
  go_ret
  have hne : B ≠ M := H1.out.bm
  refine ⟨rfl, ⟨H1.out.blk.kept (hg3.out.block _ H1.out.blk.lt (fun e => by have := Option.some.inj e; omega)), hm3.out, H1.out.m4.kept (hg3.out.block _ H1.out.m4.lt (fun e => by have := Option.some.inj e; have := H1.out.ne.1; omega)), H1.out.m5.kept (hg3.out.block _ H1.out.m5.lt (fun e => by have := Option.some.inj e; have := H1.out.ne.2; omega)), H1.out.ne⟩, (Chg.of HB.out).grew hg3.out (fun k e _ hk => by cases e; exact hk rfl)⟩
end Go.Proofs.YtoicnghjjgkebaaGreatDoor
namespace Go.Proofs.YtoicnghjjgkebaaGreatDoor
open Go.RowKit Go.Shelf
attribute [local go_sem] Oper.semAt_some
theorem results_row_tmp {fn : Func} {p u : Tmp} {ty : TypeId} {P : Program} (h : fn.results = #[.cell p ty, .tmp u]) (tmps : Array Value) (w : World) (g : Nat) (t : TypeId) (cs : Array Value) (fr : Nat × Nat) (d : TypeDesc) (hd : (match d with | .struct _ | .array _ _ => true | _ => false) = true)
    (hp : tmps.getD p undef = .pointer (some ⟨g, 0, none⟩)) (hg : w.heap[g]? = some (.cells cs t fr))
    (hu : P.underlying ty = some d) (hi : (P.info? ty).map (·.size) = some cs.size) :
    (results fn tmps).run P w = .ok (.tuple #[.agg cs, tmps.getD u undef]) w := by
  rw [results_cell_tmp h, hp]
  have hl : (loadVar ty ⟨g, 0, none⟩).run P w = .ok (.agg cs) w := run_loadVar_row w g t ty cs fr d hg hu (by cases d <;> first | rfl | cases hd) hi
  simp [asAddr, hl]
section
variable {K : Type} [DecidableEq K] {enc : K → Value} {T : TypeId}
variable {ops : Array Oper} {rest : List Oper} {o : Oper} {a : Act} {Q : Exit → Act → World → Prop}
theorem wpList_look_g {w : World} (hk : KeyT T enc) (hg : o.guard = none) (m x : Operand) (M : TypeId) (hop : o.op = .lookup M m x true) (E : TypeId) (hT : Tryz.prog.underlying M = some (.map T E)) {z : Value} (hz : (zeroValue E).run Tryz.prog w = .ok z w) (s : Nat) (l : List (K × Value))
    (hm : a.eval m = .map (some s)) (h : MapG enc w s l) (k : K) (hx : a.eval x = enc k) {v : Value} {b : Bool} (hv : (getG k l).getD z = v) (hb : (getG k l).isSome = b) (hK : wpList Tryz.prog ops Q rest (a.put o.dst (.tuple #[v, .bool b])) w) : wpList Tryz.prog ops Q (o :: rest) a w := by
  refine Great.wpList_runTo hg o.dst rfl _ _ ?_ hK
  have := h.look hk hT hz k true
  rw [if_pos rfl, hv, hb] at this
  simp only [execOp, hop, hm, hx, Sem.run_bind, Sem.run_pure, this, Result.andThen_ok]
end
/-- Where an id stands, else nought. -/
def atI (ids : List Id) (k : Id) : Int := if k ∈ ids then (ids.idxOf k : Nat) else 0
def inI (ids : List Id) (k : Id) : Bool := decide (k ∈ ids)
theorem getI (k : Id) (ids : List Id) (hn : ids.Nodup) : (getG k (spots ids)).getD (.int .i64 0) = .int .i64 (atI ids k) ∧ (getG k (spots ids)).isSome = inI ids k := by
  rw [getG_spots k ids hn]
  unfold atI inI
  split <;> simp_all
/-- The rounds' maps. -/
structure RdM (w : World) (Rd Mr Mc : Nat) (ids jds : List Id) : Prop where
  c3 : w.cell? ⟨Rd, 3, none⟩ = some (.map (some Mr))
  c4 : w.cell? ⟨Rd, 4, none⟩ = some (.map (some Mc))
  mr : MapG idv w Mr (spots ids)
  mc : MapG idv w Mc (spots jds)
theorem RdM.lt {w : World} {Rd Mr Mc : Nat} {ids jds : List Id} (h : RdM w Rd Mr Mc ids jds) : Rd < w.heap.size := World.block_lt_of_cell? w _ h.c3
theorem RdM.below {w w' : World} {Rd Mr Mc : Nat} {ids jds : List Id} (h : RdM w Rd Mr Mc ids jds) (b : Below w.heap.size w w') : RdM w' Rd Mr Mc ids jds :=
  ⟨(b.cell (p := ⟨Rd, 3, none⟩) h.lt).trans h.c3, (b.cell (p := ⟨Rd, 4, none⟩) h.lt).trans h.c4, h.mr.kept (b.block _ h.mr.lt), h.mc.kept (b.block _ h.mc.lt)⟩
def PcP (ids jds : List Id) (k : Cel) (w : World) (e : Ending) (w' : World) : Prop := e = .returned (.tuple #[.agg #[.int .i64 (atI ids k.1), .int .i64 (atI jds k.2)], .bool (inI ids k.1 && inI jds k.2)]) ∧ Below w.heap.size w w'
set_option maxRecDepth 100000 in
set_option maxHeartbeats 4000000 in
theorem rplace_c (w : World) (Rd Mr Mc : Nat) (ids jds : List Id) (hn : ids.Nodup) (hm : jds.Nodup) (x y z u : Int) (h : RdM w Rd Mr Mc ids jds) :
    Calls Tryz.prog 67 #[.pointer (some ⟨Rd, 0, none⟩), .agg #[.int .i64 x, .int .i64 y, .int .i64 z, .int .i64 u]] w (PcP ids jds ((x, y), (z, u)) w) := by
  have B0 := Bxs.start w [(29, #[.int .i64 x, .int .i64 y, .int .i64 z, .int .i64 u]), (89, #[.int .i64 0, .int .i64 0])]
  simp only [allocAll] at B0
  have X0 := Lib.hid (B0.box 0 _ _ rfl)
  have X1 := Lib.hid (B0.box 1 _ _ rfl)
  have HB := Lib.hid B0.below
  have HR := Lib.hid (h.below B0.below)
  obtain ⟨g1, g2⟩ := getI (x, y) ids hn
  obtain ⟨g3, g4⟩ := getI (z, u) jds hm
  have G := Lib.hid (And.intro g1 (And.intro g2 (And.intro g3 g4)))
  have HE := Lib.hid (show PcP ids jds ((x, y), (z, u)) w = fun e w' => e = .returned (.tuple #[.agg #[.int .i64 (atI ids (x, y)), .int .i64 (atI jds (z, u))], .bool (inI ids (x, y) && inI jds (z, u))]) ∧ Below w.heap.size w w' from rfl)
  clear h B0 g1 g2 g3 g4 hn hm
  rw [HE.out]
  generalize atI ids (x, y) = i at *
  generalize atI jds (z, u) = j at *
  generalize inI ids (x, y) = b1 at *
  generalize inI jds (z, u) = b2 at *
  go_enter Tryz.func67, Tryz.ntmps67
  go_upto_region 1 with fail
  generalize hV : (w.alloc _).alloc _ = V at *
  clear hV
  simp only [Nat.add_zero] at X0 X1
  have C0 : AllCells V.drew [(⟨Rd, 3, none⟩, .map (some Mr)), (⟨Rd, 4, none⟩, .map (some Mc)), (⟨w.heap.size, 0, none⟩, .int .i64 x), (⟨w.heap.size, 1, none⟩, .int .i64 y), (⟨w.heap.size, 2, none⟩, .int .i64 z), (⟨w.heap.size, 3, none⟩, .int .i64 u)] :=
    ⟨HR.out.c3, HR.out.c4, X0.out.cell 0, X0.out.cell 1, X0.out.cell 2, X0.out.cell 3, trivial⟩
  refine rfree [0, 1, 2, 3, 4] 7 (by kernel_rfl) (fun _ _ _ _ _ h => h) C0 ?_
  intro hne hu; try simp only [AllCells] at hu
  simp only [pick, pk]
  repeat (go_big_quiet_step (fail))
  refine wpQuiet_nil ?_; clear hne hu
  obtain ⟨-, -, c0, c1, c2, c3, -⟩ := id C0
  refine anyN_oneL 5 (by kernel_rfl) ?_; simp only [pk]
  go_wp2_with fail
  first | refine And.intro (fun _ => C0) ?_ | refine And.intro C0 ?_ | skip
  refine anyN_oneL 6 (by kernel_rfl) ?_; simp only [pk]
  refine wpList_look_g keyId rfl _ _ _ rfl _ Tryz.underlying127 (zero3 _) _ _ rfl (HR.out.mr.kept rfl) (x, y) rfl G.out.1 G.out.2.1 ?_
  go_wp2_with fail
  simp only [Act.put, List.setIfInBounds_toArray, List.set_cons_succ, List.set_cons_zero]
  first | refine And.intro (fun _ => C0) ?_ | refine And.intro C0 ?_ | skip
  refine rmore [7, 8, 9, 10, 11] 0 (by kernel_rfl) (fun _ _ _ _ _ h => h) C0 ?_
  intro hne hu; try simp only [AllCells] at hu
  simp only [pick, pk]
  repeat (go_big_quiet_step (fail))
  refine wpQuiet_nil ?_; clear hne hu
  refine ⟨by kernel_rfl, ?_⟩
  have C1 : AllCells V.drew.drew [(⟨Rd, 3, none⟩, .map (some Mr)), (⟨Rd, 4, none⟩, .map (some Mc)), (⟨w.heap.size, 0, none⟩, .int .i64 x), (⟨w.heap.size, 1, none⟩, .int .i64 y), (⟨w.heap.size, 2, none⟩, .int .i64 z), (⟨w.heap.size, 3, none⟩, .int .i64 u)] := C0
  clear C0
  go_upto_region 2 with fail
  refine rfree [0, 1, 2, 3, 4] 7 (by kernel_rfl) (fun _ _ _ _ _ h => h) C1 ?_
  intro hne hu; try simp only [AllCells] at hu
  simp only [pick, pk]
  repeat (go_big_quiet_step (fail))
  refine wpQuiet_nil ?_; clear hne hu
  have c2 : V.drew.drew.cell? ⟨w.heap.size, 2, none⟩ = some (.int .i64 z) := c2
  have c3 : V.drew.drew.cell? ⟨w.heap.size, 3, none⟩ = some (.int .i64 u) := c3
  refine anyN_oneL 5 (by kernel_rfl) ?_; simp only [pk]
  go_wp2_with fail
  first | refine And.intro (fun _ => C1) ?_ | refine And.intro C1 ?_ | skip
  refine anyN_oneL 6 (by kernel_rfl) ?_; simp only [pk]
  refine wpList_look_g keyId rfl _ _ _ rfl _ Tryz.underlying127 (zero3 _) _ _ rfl (HR.out.mc.kept rfl) (z, u) rfl G.out.2.2.1 G.out.2.2.2 ?_
  go_wp2_with fail
  simp only [Act.put, List.setIfInBounds_toArray, List.set_cons_succ, List.set_cons_zero]
  first | refine And.intro (fun _ => C1) ?_ | refine And.intro C1 ?_ | skip
  refine rmore [7, 8, 9, 10, 11] 0 (by kernel_rfl) (fun _ _ _ _ _ h => h) C1 ?_
  intro hne hu; try simp only [AllCells] at hu
  simp only [pick, pk]
  repeat (go_big_quiet_step (fail))
  refine wpQuiet_nil ?_; clear hne hu
  refine ⟨by kernel_rfl, ?_⟩
  have d0 : V.drew.drew.cell? ⟨w.heap.size + 1, 0, none⟩ = some (.int .i64 0) := X1.out.cell 0
  have d1 : V.drew.drew.cell? ⟨w.heap.size + 1, 1, none⟩ = some (.int .i64 0) := X1.out.cell 1
  have f0 : V.drew.drew.frozen? ⟨w.heap.size + 1, 0, none⟩ = false := X1.out.frozen 0
  have f1 : V.drew.drew.frozen? ⟨w.heap.size + 1, 1, none⟩ = false := X1.out.frozen 1
  have X2 := Lib.hid (show Blk V.drew.drew (w.heap.size + 1) 89 #[.int .i64 0, .int .i64 0] from X1.out)
  have HB2 := Lib.hid (show Below w.heap.size w V.drew.drew from HB.out.drew.drew)
  generalize V.drew.drew = V2 at *
  have X3 := Lib.hid (show Blk ((V2.setCell ⟨w.heap.size + 1, 0, none⟩ (.int .i64 i)).setCell ⟨w.heap.size + 1, 1, none⟩ (.int .i64 j)) (w.heap.size + 1) 89 #[.int .i64 i, .int .i64 j] from (X2.out.store 0 (.int .i64 i)).store 1 (.int .i64 j))
  have HB3 := Lib.hid (show Below w.heap.size w ((V2.setCell ⟨w.heap.size + 1, 0, none⟩ (.int .i64 i)).setCell ⟨w.heap.size + 1, 1, none⟩ (.int .i64 j)) from (HB2.out.setCell (Nat.le_succ _) _).setCell (Nat.le_succ _) _)
  cases b1
  all_goals
    go_wp2_with fail
    refine bodyPost_ret (results_row_tmp rfl _ _ (w.heap.size + 1) 89 #[.int .i64 i, .int .i64 j] (0, 0) _ rfl rfl X3.out Tryz.underlying89 (by kernel_rfl)) rfl ⟨?_, HB3.out⟩
    cases b2 <;> rfl
end Go.Proofs.YtoicnghjjgkebaaGreatDoor
namespace Go.Proofs.YtoicnghjjgkebaaGreatDoor
open Go.RowKit Go.Shelf
attribute [local go_sem] Oper.semAt_some
/-- A result: its typed values; no formula; the board. -/
structure ResAt (w : World) (Rs Mv Mn Bd M5 : Nat) (pv : List (Id × Value)) (n : Int) : Prop where
  c2 : w.cell? ⟨Rs, 2, none⟩ = some (.map (some Mv))
  c3 : w.cell? ⟨Rs, 3, none⟩ = some (.map (some Mn))
  c9 : w.cell? ⟨Rs, 9, none⟩ = some (.pointer (some ⟨Bd, 0, none⟩))
  c10 : w.cell? ⟨Rs, 10, none⟩ = some (.int .i64 n)
  b5 : w.cell? ⟨Bd, 5, none⟩ = some (.map (some M5))
  mv : MapG idv w Mv pv
  mn : MapG idv w Mn []
  m5 : MapG idv w M5 []
theorem ResAt.below {w w' : World} {Rs Mv Mn Bd M5 : Nat} {pv : List (Id × Value)} {n : Int} (h : ResAt w Rs Mv Mn Bd M5 pv n) (b : Below w.heap.size w w') : ResAt w' Rs Mv Mn Bd M5 pv n :=
  have l1 := World.block_lt_of_cell? w _ h.c2
  have l2 := World.block_lt_of_cell? w _ h.b5
  ⟨(b.cell (p := ⟨Rs, 2, none⟩) l1).trans h.c2, (b.cell (p := ⟨Rs, 3, none⟩) l1).trans h.c3, (b.cell (p := ⟨Rs, 9, none⟩) l1).trans h.c9, (b.cell (p := ⟨Rs, 10, none⟩) l1).trans h.c10, (b.cell (p := ⟨Bd, 5, none⟩) l2).trans h.b5, h.mv.kept (b.block _ h.mv.lt), h.mn.kept (b.block _ h.mn.lt), h.m5.kept (b.block _ h.m5.lt)⟩
theorem zeroRect (w : World) : (zeroValue 95).run Tryz.prog w = .ok (.agg #[.int .i64 0, .int .i64 0, .int .i64 0, .int .i64 0]) w := by kernel_rfl
set_option maxRecDepth 100000 in
set_option maxHeartbeats 2000000 in
theorem passes_c (w : World) (Rs Mv Mn Bd M5 : Nat) (pv : List (Id × Value)) (n : Int) (h : ResAt w Rs Mv Mn Bd M5 pv n) : Calls Tryz.prog 11 #[.pointer (some ⟨Rs, 0, none⟩)] w fun e w' => e = .returned (.int .i64 n) ∧ Below w.heap.size w w' := by
  have c := h.c10
  clear h
  go_enter Tryz.func11, Tryz.ntmps11
  go_wp2_with fail
  go_ret
  exact ⟨rfl, Below.refl _ _⟩
set_option maxRecDepth 100000 in
set_option maxHeartbeats 2000000 in
theorem owner_c (w : World) (Bd M5 : Nat) (x y : Int) (h : w.cell? ⟨Bd, 5, none⟩ = some (.map (some M5))) (hm : MapG idv w M5 []) : Calls Tryz.prog 24 #[.pointer (some ⟨Bd, 0, none⟩), .int .i64 x, .int .i64 y] w fun e w' => e = .returned (.tuple #[.agg #[.int .i64 0, .int .i64 0, .int .i64 0, .int .i64 0], .bool false]) ∧ Below w.heap.size w w' := by
  have hb : Below w.heap.size w (w.alloc (.cells #[.int .i64 0, .int .i64 0, .int .i64 0, .int .i64 0] 95)) := (Below.refl _ _).alloc (Nat.le_refl _) _
  have HB := Lib.hid hb
  have c5 := (hb.cell (p := ⟨Bd, 5, none⟩) (World.block_lt_of_cell? w _ h)).trans h
  have HM := Lib.hid (hm.kept (hb.block _ hm.lt))
  have X0 := Lib.hid (Blk.new w 95 #[.int .i64 0, .int .i64 0, .int .i64 0, .int .i64 0])
  clear h hm hb
  go_enter Tryz.func24, Tryz.ntmps24
  go_wp2_with (refine wpList_look_g keySpot rfl _ _ _ rfl _ Tryz.underlying152 (zeroRect _) _ _ rfl HM.out (x, y) rfl (v := .agg #[.int .i64 0, .int .i64 0, .int .i64 0, .int .i64 0]) (b := false) rfl rfl ?_)
  have hb2 : Below w.heap.size w ((w.alloc (.cells #[.int .i64 0, .int .i64 0, .int .i64 0, .int .i64 0] 95)).alloc (.cells #[.int .i64 0, .int .i64 0, .int .i64 0, .int .i64 0] 95)) := HB.out.alloc (by simp) _
  exact bodyPost_ret (results_row_tmp rfl _ _ w.heap.size 95 #[.int .i64 0, .int .i64 0, .int .i64 0, .int .i64 0] (0, 0) _ rfl rfl (X0.out.kept (Below.heap_alloc _ _ _ (by simp))) Tryz.underlying95 (by kernel_rfl)) rfl ⟨rfl, hb2⟩
set_option maxRecDepth 100000 in
set_option maxHeartbeats 2000000 in
theorem rowner_c (w : World) (Rs Mv Mn Bd M5 : Nat) (pv : List (Id × Value)) (n x y : Int) (h : ResAt w Rs Mv Mn Bd M5 pv n) : Calls Tryz.prog 7 #[.pointer (some ⟨Rs, 0, none⟩), .int .i64 x, .int .i64 y] w fun e w' => e = .returned (.tuple #[.int .i64 0, .int .i64 0, .bool false]) ∧ Below w.heap.size w w' := by
  have c9 := h.c9
  have HO := Lib.hid (owner_c w Bd M5 x y h.b5 h.m5)
  clear h
  go_enter Tryz.func7, Tryz.ntmps7
  go_wp2_with fail
  refine HO.out.mono ?_
  rintro _ w1 ⟨rfl, b1⟩
  have hb : Below w1.heap.size w1 (w1.alloc (.cells #[.int .i64 0, .int .i64 0, .int .i64 0, .int .i64 0] 95)) := (Below.refl _ _).alloc (Nat.le_refl _) _
  have HB := Lib.hid ((b1.trans (hb.mono b1.size)).drew)
  have X0 := Blk.new w1 95 #[.int .i64 0, .int .i64 0, .int .i64 0, .int .i64 0]
  have C0 : AllCells (w1.alloc (.cells #[.int .i64 0, .int .i64 0, .int .i64 0, .int .i64 0] 95)).drew [(⟨w1.heap.size, 0, none⟩, .int .i64 0), (⟨w1.heap.size, 1, none⟩, .int .i64 0)] := ⟨X0.cell 0, X0.cell 1, trivial⟩
  clear b1 hb X0 c9
  go_wp2_with fail
  refine rfree [0, 1, 2, 3, 4, 5, 6, 7] 0 (by kernel_rfl) (fun _ _ _ _ _ h => h) C0 ?_
  intro hne hu; try simp only [AllCells] at hu
  simp only [pick, pk]
  repeat (go_big_quiet_step (fail))
  refine wpQuiet_nil ?_; clear hne hu
  refine ⟨by kernel_rfl, ?_⟩
  go_wp2_with fail
  go_ret3
  exact ⟨rfl, HB.out⟩
set_option maxRecDepth 100000 in
set_option maxHeartbeats 2000000 in
theorem rcircle_c (w : World) (Rs Mv Mn Bd M5 : Nat) (pv : List (Id × Value)) (n x y : Int) (h : ResAt w Rs Mv Mn Bd M5 pv n) : Calls Tryz.prog 10 #[.pointer (some ⟨Rs, 0, none⟩), .int .i64 x, .int .i64 y] w fun e w' => e = .returned (.slice none 0 0) ∧ Below w.heap.size w w' := by
  have c3 := h.c3
  have HM := Lib.hid h.mn
  clear h
  go_enter Tryz.func10, Tryz.ntmps10
  go_wp2_with (refine wpList_look_g keyPlace rfl _ _ _ rfl _ Tryz.underlying98 (zero3 _) _ _ rfl HM.out (x, y) rfl (v := .int .i64 0) (b := false) rfl rfl ?_)
  go_ret
  exact ⟨rfl, Below.refl _ _⟩
set_option maxRecDepth 100000 in
set_option maxHeartbeats 2000000 in
theorem rarray_c (w : World) (Rs Mv Mn Bd M5 : Nat) (pv : List (Id × Value)) (n x y : Int) (h : ResAt w Rs Mv Mn Bd M5 pv n) : Calls Tryz.prog 8 #[.pointer (some ⟨Rs, 0, none⟩), .int .i64 x, .int .i64 y] w fun e w' => e = .returned (.tuple #[.agg #[.int .i64 0, .int .i64 0, .slice none 0 0], .bool false]) ∧ Below w.heap.size w w' := by
  have hb : Below w.heap.size w (w.alloc (.cells #[.int .i64 0, .int .i64 0, .slice none 0 0] 58)) := (Below.refl _ _).alloc (Nat.le_refl _) _
  have HB := Lib.hid hb
  have c3 := (h.below hb).c3
  have HM := Lib.hid (h.below hb).mn
  have X0 := Lib.hid (Blk.new w 58 #[.int .i64 0, .int .i64 0, .slice none 0 0])
  clear h hb
  go_enter Tryz.func8, Tryz.ntmps8
  go_wp2_with (refine wpList_look_g keyPlace rfl _ _ _ rfl _ Tryz.underlying98 (zero3 _) _ _ rfl HM.out (x, y) rfl (v := .int .i64 0) (b := false) rfl rfl ?_)
  exact bodyPost_ret (results_row_tmp rfl _ _ w.heap.size 58 #[.int .i64 0, .int .i64 0, .slice none 0 0] (0, 0) _ rfl rfl X0.out Tryz.underlying58 (by kernel_rfl)) rfl ⟨rfl, HB.out⟩
end Go.Proofs.YtoicnghjjgkebaaGreatDoor
namespace Go.Proofs.YtoicnghjjgkebaaGreatDoor
open Go.RowKit Go.Shelf
attribute [local go_sem] Oper.semAt_some
def valv (v : Val) : Value := .agg v.cs.toArray
theorem zeroVal (w : World) : (zeroValue 33).run Tryz.prog w = .ok (.agg #[.int .i64 0, .int .i64 0, .int .i64 0, .string ⟨#[]⟩, .bool false, .int .i64 0]) w := by kernel_rfl
theorem val_row : RowT 33 6 := ⟨⟨_, Tryz.underlying33, rfl⟩, by kernel_rfl⟩
set_option maxRecDepth 100000 in
set_option maxHeartbeats 4000000 in
theorem rvalue_some (w : World) (Rs Mv Mn Bd M5 : Nat) (pv : List (Id × Value)) (n x y : Int) (v : Val) (h : ResAt w Rs Mv Mn Bd M5 pv n) (HG : getG (x, y) pv = some (valv v)) : Calls Tryz.prog 9 #[.pointer (some ⟨Rs, 0, none⟩), .int .i64 x, .int .i64 y] w fun e w' => e = .returned (valv v) ∧ Below w.heap.size w w' := by
  obtain ⟨k, m, e, t, b, f⟩ := v
  have B0 := Bxs.start w [(33, #[.int .i64 0, .int .i64 0, .int .i64 0, .string ⟨#[]⟩, .bool false, .int .i64 0]), (89, #[.int .i64 x, .int .i64 y])]
  simp only [allocAll] at B0
  have X0 := Lib.hid (B0.box 0 _ _ rfl)
  have X1 := Lib.hid (B0.box 1 _ _ rfl)
  have HB := Lib.hid B0.below
  have HR := Lib.hid (h.below B0.below)
  have hG1 : (getG (x, y) pv).getD (.agg #[.int .i64 0, .int .i64 0, .int .i64 0, .string ⟨#[]⟩, .bool false, .int .i64 0]) = .agg #[.int .i64 k, .int .i64 m, .int .i64 e, .string t, .bool b, .int .i64 f] := by rw [HG]; rfl
  have hG2 : (getG (x, y) pv).isSome = true := by rw [HG]; rfl
  have G := Lib.hid (And.intro hG1 hG2)
  clear h B0 hG1 hG2 HG
  go_enter Tryz.func9, Tryz.ntmps9
  go_upto_region 4 with fail
  generalize hV : (w.alloc _).alloc _ = V at *
  clear hV
  simp only [Nat.add_zero] at X0 X1
  obtain ⟨V2, HHV⟩ : ∃ V2, Hid (V2 = V.drew) := ⟨_, Lib.hid rfl⟩
  have C0 : AllCells V2 [(⟨Rs, 2, none⟩, .map (some Mv)), (⟨w.heap.size + 1, 0, none⟩, .int .i64 x), (⟨w.heap.size + 1, 1, none⟩, .int .i64 y)] := by rw [HHV.out]; exact ⟨HR.out.c2, X1.out.cell 0, X1.out.cell 1, trivial⟩
  have bZ : Below V2.heap.size V2 (V2.alloc (.cells #[.int .i64 0, .int .i64 0, .int .i64 0, .string ⟨#[]⟩, .bool false, .int .i64 0] 33)) := (Below.refl _ _).alloc (Nat.le_refl _) _
  have bX : Below V2.heap.size V2 (V2.alloc (.cells #[.int .i64 k, .int .i64 m, .int .i64 e, .string t, .bool b, .int .i64 f] 33)) := (Below.refl _ _).alloc (Nat.le_refl _) _
  have HMV := Lib.hid (show MapG idv V2 Mv pv by rw [HHV.out]; exact HR.out.mv.kept rfl)
  have HMV9 := Lib.hid (HMV.out.kept (bZ.block _ HMV.out.lt))
  have HBV := Lib.hid (show Below w.heap.size w V2 by rw [HHV.out]; exact HB.out.drew)
  have X0' := Lib.hid (show Blk V2 _ _ _ by rw [HHV.out]; exact X0.out.kept (w' := V.drew) rfl)
  have X1' := Lib.hid (show Blk V2 _ _ _ by rw [HHV.out]; exact X1.out.kept (w' := V.drew) rfl)
  have HR' := Lib.hid (show ResAt V2 Rs Mv Mn Bd M5 pv n by rw [HHV.out]; exact HR.out.below (w' := V.drew) (Below.refl _ _).drew)
  have C1 := AllCells.below C0 bZ
  have C2 := AllCells.below C0 bX
  obtain ⟨-, c0, c1, -⟩ := id C0
  have HBX := Lib.hid bX
  clear bZ bX X0 X1 HB HR
  refine wp_fin ?A (V2.alloc (.cells #[.int .i64 k, .int .i64 m, .int .i64 e, .string t, .bool b, .int .i64 f] 33)) ?fin ?main
  case main =>
    intro hfin
    have HF := Lib.hid hfin
    clear hfin
    have C0V : AllCells V.drew [(⟨Rs, 2, none⟩, .map (some Mv)), (⟨w.heap.size + 1, 0, none⟩, .int .i64 x), (⟨w.heap.size + 1, 1, none⟩, .int .i64 y)] := by rw [← HHV.out]; exact C0
    refine rfree [0, 1, 2, 3, 4] 7 (by kernel_rfl) (fun _ _ _ _ _ h => h) C0V ?_
    intro hne hu; try simp only [AllCells] at hu
    simp only [pick, pk]
    repeat (go_big_quiet_step (fail))
    refine wpQuiet_nil ?_; clear hne hu
    rw [← HHV.out]
    clear C0V
    refine anyN_twoL 5 9 (by kernel_rfl) ?_ ?_ <;> simp only [pk]
    · refine wpList_look_g keyPlace rfl _ _ _ rfl _ Tryz.underlying97 (zeroVal _) _ _ rfl HMV.out (x, y) rfl G.out.1 G.out.2 ?_
      go_wp2_with fail
      try simp only [Act.put, List.setIfInBounds_toArray, List.set_cons_succ, List.set_cons_zero]
      first | refine And.intro (fun _ => C0) ?_ | refine And.intro C0 ?_ | skip
      refine rmore [6, 7, 8] 3 (by kernel_rfl) (fun _ _ _ _ _ h => h) C0 ?_
      intro hne hu; try simp only [AllCells] at hu
      simp only [pick, pk]
      repeat (go_big_quiet_step (fail))
      refine wpQuiet_nil ?_; clear hne hu
      refine anyN_oneL 9 (by kernel_rfl) ?_; simp only [pk]
      go_wp2_with fail
      first | refine And.intro (fun _ => C1) ?_ | refine And.intro C1 ?_ | skip
      refine anyN_oneL 10 (by kernel_rfl) ?_; simp only [pk]
      go_wp2_with fail
      first | refine And.intro (fun _ => C2) ?_ | refine And.intro C2 ?_ | skip
      refine rmore [11] 0 (by kernel_rfl) (fun _ _ _ _ _ h => h) C2 ?_
      intro hne hu; try simp only [AllCells] at hu
      simp only [pick, pk]
      repeat (go_big_quiet_step (fail))
      refine wpQuiet_nil ?_; clear hne hu
      refine ⟨by kernel_rfl, ?_⟩
      exact HF.out
    · go_wp2_with fail
      first | refine And.intro (fun _ => C1) ?_ | refine And.intro C1 ?_ | skip
      refine anyN_oneL 5 (by kernel_rfl) ?_; simp only [pk]
      refine wpList_look_g keyPlace rfl _ _ _ rfl _ Tryz.underlying97 (zeroVal _) _ _ rfl HMV9.out (x, y) rfl G.out.1 G.out.2 ?_
      go_wp2_with fail
      try simp only [Act.put, List.setIfInBounds_toArray, List.set_cons_succ, List.set_cons_zero]
      first | refine And.intro (fun _ => C1) ?_ | refine And.intro C1 ?_ | skip
      refine rmore [6, 7, 8] 2 (by kernel_rfl) (fun _ _ _ _ _ h => h) C1 ?_
      intro hne hu; try simp only [AllCells] at hu
      simp only [pick, pk]
      repeat (go_big_quiet_step (fail))
      refine wpQuiet_nil ?_; clear hne hu
      refine anyN_oneL 10 (by kernel_rfl) ?_; simp only [pk]
      go_wp2_with fail
      first | refine And.intro (fun _ => C2) ?_ | refine And.intro C2 ?_ | skip
      refine rmore [11] 0 (by kernel_rfl) (fun _ _ _ _ _ h => h) C2 ?_
      intro hne hu; try simp only [AllCells] at hu
      simp only [pick, pk]
      repeat (go_big_quiet_step (fail))
      refine wpQuiet_nil ?_; clear hne hu
      refine ⟨by kernel_rfl, ?_⟩
      exact HF.out
  case fin =>
    clear C0 C1 C2 c0 c1
    have X8 := Lib.hid (Blk.new V2 33 #[.int .i64 k, .int .i64 m, .int .i64 e, .string t, .bool b, .int .i64 f])
    have XX := Lib.hid (X0'.out.kept (HBX.out.block _ X0'.out.lt))
    have HBW := Lib.hid (HBV.out.trans (HBX.out.mono HBV.out.size))
    generalize V2.alloc (.cells #[.int .i64 k, .int .i64 m, .int .i64 e, .string t, .bool b, .int .i64 f] 33) = W at *
    have ld := Lib.hid (Seg.of (cs := [.int .i64 k, .int .i64 m, .int .i64 e, .string t, .bool b, .int .i64 f]) X8.out).lies
    have hl : Hid ([Value.int .i64 k, .int .i64 m, .int .i64 e, .string t, .bool b, .int .i64 f].length = 6) := Lib.hid rfl
    have hz : Hid (0 + 6 ≤ [Value.int .i64 0, .int .i64 0, .int .i64 0, .string ⟨#[]⟩, .bool false, .int .i64 0].length) := Lib.hid (by decide)
    have ho : Hid (∀ u ∈ [Value.int .i64 k, .int .i64 m, .int .i64 e, .string t, .bool b, .int .i64 f], u.oneCell' = true) := Lib.hid (by simp [Value.oneCell'])
    clear X8
    go_wp2_with (first | refine ld_step val_row rfl _ rfl _ _ rfl hl.out ld.out ?_ | (refine st_blk val_row rfl _ _ rfl (cs := [.int .i64 0, .int .i64 0, .int .i64 0, .string ⟨#[]⟩, .bool false, .int .i64 0]) (vs := [.int .i64 k, .int .i64 m, .int .i64 e, .string t, .bool b, .int .i64 f]) rfl rfl XX.out hl.out hz.out ho.out ?_; intro W3 hB3 hC3; rw [show putAt [.int .i64 0, .int .i64 0, .int .i64 0, .string ⟨#[]⟩, .bool false, .int .i64 0] 0 [.int .i64 k, .int .i64 m, .int .i64 e, .string t, .bool b, .int .i64 f] = [.int .i64 k, .int .i64 m, .int .i64 e, .string t, .bool b, .int .i64 f] from putAt_all _ _ rfl] at hB3))
    exact bodyPost_ret (results_cell_row rfl _ W3 w.heap.size 33 #[.int .i64 k, .int .i64 m, .int .i64 e, .string t, .bool b, .int .i64 f] (0, 0) _ rfl hB3.out Tryz.underlying33 rfl (by kernel_rfl)) rfl ⟨rfl, HBW.out.trans (hC3.out.below HBW.out.size (fun k hk => by omega))⟩
set_option maxRecDepth 100000 in
set_option maxHeartbeats 4000000 in
theorem rvalue_none (w : World) (Rs Mv Mn Bd M5 : Nat) (pv : List (Id × Value)) (n x y : Int) (h : ResAt w Rs Mv Mn Bd M5 pv n) (HG : getG (x, y) pv = none) : Calls Tryz.prog 9 #[.pointer (some ⟨Rs, 0, none⟩), .int .i64 x, .int .i64 y] w fun e w' => e = .returned (valv zeroV) ∧ Below w.heap.size w w' := by
  have B0 := Bxs.start w [(33, #[.int .i64 0, .int .i64 0, .int .i64 0, .string ⟨#[]⟩, .bool false, .int .i64 0]), (89, #[.int .i64 x, .int .i64 y])]
  simp only [allocAll] at B0
  have X0 := Lib.hid (B0.box 0 _ _ rfl)
  have X1 := Lib.hid (B0.box 1 _ _ rfl)
  have HB := Lib.hid B0.below
  have HR := Lib.hid (h.below B0.below)
  have hG1 : (getG (x, y) pv).getD (.agg #[.int .i64 0, .int .i64 0, .int .i64 0, .string ⟨#[]⟩, .bool false, .int .i64 0]) = .agg #[.int .i64 0, .int .i64 0, .int .i64 0, .string ⟨#[]⟩, .bool false, .int .i64 0] := by rw [HG]; rfl
  have hG2 : (getG (x, y) pv).isSome = false := by rw [HG]; rfl
  have G := Lib.hid (And.intro hG1 hG2)
  clear h B0 hG1 hG2 HG
  go_enter Tryz.func9, Tryz.ntmps9
  go_upto_region 4 with fail
  generalize hV : (w.alloc _).alloc _ = V at *
  clear hV
  simp only [Nat.add_zero] at X0 X1
  obtain ⟨V2, HHV⟩ : ∃ V2, Hid (V2 = V.drew) := ⟨_, Lib.hid rfl⟩
  have C0 : AllCells V2 [(⟨Rs, 2, none⟩, .map (some Mv)), (⟨w.heap.size + 1, 0, none⟩, .int .i64 x), (⟨w.heap.size + 1, 1, none⟩, .int .i64 y)] := by rw [HHV.out]; exact ⟨HR.out.c2, X1.out.cell 0, X1.out.cell 1, trivial⟩
  have bZ : Below V2.heap.size V2 (V2.alloc (.cells #[.int .i64 0, .int .i64 0, .int .i64 0, .string ⟨#[]⟩, .bool false, .int .i64 0] 33)) := (Below.refl _ _).alloc (Nat.le_refl _) _
  have bX : Below V2.heap.size V2 (V2.alloc (.cells #[.int .i64 0, .int .i64 0, .int .i64 0, .string ⟨#[]⟩, .bool false, .int .i64 0] 33)) := (Below.refl _ _).alloc (Nat.le_refl _) _
  have HMV := Lib.hid (show MapG idv V2 Mv pv by rw [HHV.out]; exact HR.out.mv.kept rfl)
  have HMV9 := Lib.hid (HMV.out.kept (bZ.block _ HMV.out.lt))
  have HBV := Lib.hid (show Below w.heap.size w V2 by rw [HHV.out]; exact HB.out.drew)
  have X0' := Lib.hid (show Blk V2 _ _ _ by rw [HHV.out]; exact X0.out.kept (w' := V.drew) rfl)
  have X1' := Lib.hid (show Blk V2 _ _ _ by rw [HHV.out]; exact X1.out.kept (w' := V.drew) rfl)
  have HR' := Lib.hid (show ResAt V2 Rs Mv Mn Bd M5 pv n by rw [HHV.out]; exact HR.out.below (w' := V.drew) (Below.refl _ _).drew)
  have C1 := AllCells.below C0 bZ
  have C2 := AllCells.below C0 bX
  obtain ⟨-, c0, c1, -⟩ := id C0
  have HBX := Lib.hid bX
  clear bZ bX X0 X1 HB HR
  refine wp_fin ?A (V2.alloc (.cells #[.int .i64 0, .int .i64 0, .int .i64 0, .string ⟨#[]⟩, .bool false, .int .i64 0] 33)) ?fin ?main
  case main =>
    intro hfin
    have HF := Lib.hid hfin
    clear hfin
    have C0V : AllCells V.drew [(⟨Rs, 2, none⟩, .map (some Mv)), (⟨w.heap.size + 1, 0, none⟩, .int .i64 x), (⟨w.heap.size + 1, 1, none⟩, .int .i64 y)] := by rw [← HHV.out]; exact C0
    refine rfree [0, 1, 2, 3, 4] 7 (by kernel_rfl) (fun _ _ _ _ _ h => h) C0V ?_
    intro hne hu; try simp only [AllCells] at hu
    simp only [pick, pk]
    repeat (go_big_quiet_step (fail))
    refine wpQuiet_nil ?_; clear hne hu
    rw [← HHV.out]
    clear C0V
    refine anyN_twoL 5 9 (by kernel_rfl) ?_ ?_ <;> simp only [pk]
    · refine wpList_look_g keyPlace rfl _ _ _ rfl _ Tryz.underlying97 (zeroVal _) _ _ rfl HMV.out (x, y) rfl G.out.1 G.out.2 ?_
      go_wp2_with fail
      try simp only [Act.put, List.setIfInBounds_toArray, List.set_cons_succ, List.set_cons_zero]
      first | refine And.intro (fun _ => C0) ?_ | refine And.intro C0 ?_ | skip
      refine rmore [6, 7, 8] 3 (by kernel_rfl) (fun _ _ _ _ _ h => h) C0 ?_
      intro hne hu; try simp only [AllCells] at hu
      simp only [pick, pk]
      repeat (go_big_quiet_step (fail))
      refine wpQuiet_nil ?_; clear hne hu
      refine anyN_oneL 9 (by kernel_rfl) ?_; simp only [pk]
      go_wp2_with fail
      first | refine And.intro (fun _ => C1) ?_ | refine And.intro C1 ?_ | skip
      refine anyN_oneL 10 (by kernel_rfl) ?_; simp only [pk]
      go_wp2_with fail
      first | refine And.intro (fun _ => C2) ?_ | refine And.intro C2 ?_ | skip
      refine rmore [11] 0 (by kernel_rfl) (fun _ _ _ _ _ h => h) C2 ?_
      intro hne hu; try simp only [AllCells] at hu
      simp only [pick, pk]
      repeat (go_big_quiet_step (fail))
      refine wpQuiet_nil ?_; clear hne hu
      refine ⟨by kernel_rfl, ?_⟩
      exact HF.out
    · go_wp2_with fail
      first | refine And.intro (fun _ => C1) ?_ | refine And.intro C1 ?_ | skip
      refine anyN_oneL 5 (by kernel_rfl) ?_; simp only [pk]
      refine wpList_look_g keyPlace rfl _ _ _ rfl _ Tryz.underlying97 (zeroVal _) _ _ rfl HMV9.out (x, y) rfl G.out.1 G.out.2 ?_
      go_wp2_with fail
      try simp only [Act.put, List.setIfInBounds_toArray, List.set_cons_succ, List.set_cons_zero]
      first | refine And.intro (fun _ => C1) ?_ | refine And.intro C1 ?_ | skip
      refine rmore [6, 7, 8] 2 (by kernel_rfl) (fun _ _ _ _ _ h => h) C1 ?_
      intro hne hu; try simp only [AllCells] at hu
      simp only [pick, pk]
      repeat (go_big_quiet_step (fail))
      refine wpQuiet_nil ?_; clear hne hu
      refine anyN_oneL 10 (by kernel_rfl) ?_; simp only [pk]
      go_wp2_with fail
      first | refine And.intro (fun _ => C2) ?_ | refine And.intro C2 ?_ | skip
      refine rmore [11] 0 (by kernel_rfl) (fun _ _ _ _ _ h => h) C2 ?_
      intro hne hu; try simp only [AllCells] at hu
      simp only [pick, pk]
      repeat (go_big_quiet_step (fail))
      refine wpQuiet_nil ?_; clear hne hu
      refine ⟨by kernel_rfl, ?_⟩
      exact HF.out
  case fin =>
    clear C0 C1 C2 c0 c1
    have HBW := Lib.hid (HBV.out.trans (HBX.out.mono HBV.out.size))
    have HRW := Lib.hid (HR'.out.below HBX.out)
    have XX := Lib.hid (X0'.out.kept (HBX.out.block _ X0'.out.lt))
    have XY := Lib.hid (X1'.out.kept (HBX.out.block _ X1'.out.lt))
    generalize V2.alloc (.cells #[.int .i64 0, .int .i64 0, .int .i64 0, .string ⟨#[]⟩, .bool false, .int .i64 0] 33) = W at *
    have C7 : AllCells W.drew [(⟨Rs, 3, none⟩, .map (some Mn)), (⟨w.heap.size + 1, 0, none⟩, .int .i64 x), (⟨w.heap.size + 1, 1, none⟩, .int .i64 y)] := ⟨HRW.out.c3, XY.out.cell 0, XY.out.cell 1, trivial⟩
    go_upto_region 7 with fail
    refine rfree [0, 1, 2, 3, 4] 6 (by kernel_rfl) (fun _ _ _ _ _ h => h) C7 ?_
    intro hne hu; try simp only [AllCells] at hu
    simp only [pick, pk]
    repeat (go_big_quiet_step (fail))
    refine wpQuiet_nil ?_; clear hne hu
    refine anyN_oneL 5 (by kernel_rfl) ?_; simp only [pk]
    refine wpList_look_g keyPlace rfl _ _ _ rfl _ Tryz.underlying98 (zero3 _) _ _ rfl (HRW.out.mn.kept rfl) (x, y) rfl (v := .int .i64 0) (b := false) rfl rfl ?_
    go_wp2_with fail
    try simp only [Act.put, List.setIfInBounds_toArray, List.set_cons_succ, List.set_cons_zero]
    first | refine And.intro (fun _ => C7) ?_ | refine And.intro C7 ?_ | skip
    refine rmore [6, 7, 8, 9, 10] 0 (by kernel_rfl) (fun _ _ _ _ _ h => h) C7 ?_
    intro hne hu; try simp only [AllCells] at hu
    simp only [pick, pk]
    repeat (go_big_quiet_step (fail))
    refine wpQuiet_nil ?_; clear hne hu
    refine ⟨by kernel_rfl, ?_⟩
    have HRW2 := Lib.hid (HRW.out.below (w' := W.drew) (Below.refl _ _).drew)
    have HBW2 := Lib.hid HBW.out.drew
    have XX2 := Lib.hid (XX.out.kept (w' := W.drew) rfl)
    clear C7
    generalize W.drew = W2 at *
    have HO := Lib.hid (owner_c W2 Bd M5 x y HRW2.out.b5 HRW2.out.m5)
    have c9 := HRW2.out.c9
    go_wp2_with fail
    refine HO.out.mono ?_
    rintro _ w3 ⟨rfl, b3⟩
    have HB3 := Lib.hid (HBW2.out.trans (b3.mono HBW2.out.size))
    have bl : Below w3.heap.size w3 (w3.alloc (.cells #[.int .i64 0, .int .i64 0, .int .i64 0, .int .i64 0] 95)) := (Below.refl _ _).alloc (Nat.le_refl _) _
    have HB4 := Lib.hid (HB3.out.trans (bl.mono HB3.out.size))
    have X3 := Lib.hid ((XX2.out.kept (b3.block _ XX2.out.lt)).kept (bl.block _ (Nat.lt_of_lt_of_le XX2.out.lt b3.size)))
    have hl : Hid ([Value.int .i64 0, .int .i64 0, .int .i64 0, .string ⟨#[]⟩, .bool false, .int .i64 0].length = 6) := Lib.hid rfl
    have hz : Hid (0 + 6 ≤ [Value.int .i64 0, .int .i64 0, .int .i64 0, .string ⟨#[]⟩, .bool false, .int .i64 0].length) := Lib.hid (by decide)
    have ho : Hid (∀ u ∈ [Value.int .i64 0, .int .i64 0, .int .i64 0, .string ⟨#[]⟩, .bool false, .int .i64 0], u.oneCell' = true) := Lib.hid (by simp [Value.oneCell'])
    clear b3 bl c9
    go_wp2_with (refine st_blk val_row rfl _ _ rfl (cs := [.int .i64 0, .int .i64 0, .int .i64 0, .string ⟨#[]⟩, .bool false, .int .i64 0]) (vs := [.int .i64 0, .int .i64 0, .int .i64 0, .string ⟨#[]⟩, .bool false, .int .i64 0]) rfl rfl X3.out hl.out hz.out ho.out ?_; intro W3 hB3 hC3; rw [putAt_all _ _ rfl] at hB3)
    exact bodyPost_ret (results_cell_row rfl _ W3 w.heap.size 33 #[.int .i64 0, .int .i64 0, .int .i64 0, .string ⟨#[]⟩, .bool false, .int .i64 0] (0, 0) _ rfl hB3.out Tryz.underlying33 rfl (by kernel_rfl)) rfl ⟨rfl, HB4.out.trans (hC3.out.below HB4.out.size (fun k hk => by omega))⟩
end Go.Proofs.YtoicnghjjgkebaaGreatDoor
namespace Go.Proofs.YtoicnghjjgkebaaGreatDoor
open Go.RowKit Go.Shelf
theorem veq_zz : veq zeroV zeroV = true := by decide
set_option maxRecDepth 100000 in
set_option maxHeartbeats 4000000 in
theorem csame0_c (A : Option Addr) (c : Nat) (w : World) : Calls Tryz.prog 54 #[.agg (ccs 0 zeroV (zt A c)).toArray, .agg ctZ.toArray] w fun e w' => e = .returned (.bool true) ∧ Below w.heap.size w w' := by
  have B0 := Lib.hid (Bxs.start w [(42, (ccs 0 zeroV (zt A c)).toArray), (42, ctZ.toArray)])
  simp only [allocAll] at B0
  have HV := Lib.hid (vsame_c zeroV zeroV)
  rw [veq_zz] at HV
  have HT := Lib.hid (tsame_c A c)
  have hl0 : Hid ((zt A c).length = 22) := Lib.hid rfl
  have hl1 : Hid (nodeZ.length = 22) := Lib.hid rfl
  generalize zt A c = t at *
  obtain ⟨cs, hcs⟩ : ∃ cs, cs = (ccs 0 ⟨0, 0, 0, ⟨#[]⟩, false, 0⟩ t).toArray := ⟨_, rfl⟩
  obtain ⟨ct, hct⟩ : ∃ ct, ct = (ccs 0 ⟨0, 0, 0, ⟨#[]⟩, false, 0⟩ nodeZ).toArray := ⟨_, rfl⟩
  simp only [zeroV, ctZ, Val.cs] at B0 HV ⊢
  rw [← hcs, ← hct] at B0 ⊢
  have HCS := Lib.hid hcs
  have HCT := Lib.hid hct
  clear hcs hct
  obtain ⟨⟨c0, c1, c2, c3, c4, c5, c6⟩, hr, -⟩ := ct_box (show Blk _ w.heap.size 42 _ from by rw [← HCS.out]; exact B0.out.box 0 _ _ rfl)
  have ld := Lib.hid hr
  dsimp only at c1 c2 c3 c4 c5 c6
  clear hr
  obtain ⟨⟨d0, d1, d2, d3, d4, d5, d6⟩, hs, -⟩ := ct_box (show Blk _ (w.heap.size + 1) 42 _ from by rw [← HCT.out]; exact B0.out.box 1 _ _ rfl)
  have le := Lib.hid hs
  dsimp only at d1 d2 d3 d4 d5 d6
  clear hs
  generalize nodeZ = nz at *
  go_enter Tryz.func54, Tryz.ntmps54
  go_wp2_with (first | refine ld_stepG node_row rfl _ rfl _ _ rfl hl0.out ld.out ?_ | refine ld_stepG node_row rfl _ rfl _ _ rfl hl1.out le.out ?_ | fail)
  refine (HV.out _).mono ?_
  rintro _ w1 ⟨rfl, b1⟩
  have B1 := Lib.hid (B0.out.next b1)
  clear c0 c1 c2 c3 c4 c5 c6 d0 d1 d2 d3 d4 d5 d6 ld le b1 B0
  obtain ⟨⟨c0, c1, c2, c3, c4, c5, c6⟩, hr, -⟩ := ct_box (show Blk _ w.heap.size 42 _ from by rw [← HCS.out]; exact B1.out.box 0 _ _ rfl)
  have ld := Lib.hid hr
  dsimp only at c1 c2 c3 c4 c5 c6
  clear hr
  obtain ⟨⟨d0, d1, d2, d3, d4, d5, d6⟩, hs, -⟩ := ct_box (show Blk _ (w.heap.size + 1) 42 _ from by rw [← HCT.out]; exact B1.out.box 1 _ _ rfl)
  have le := Lib.hid hs
  dsimp only at d1 d2 d3 d4 d5 d6
  clear hs
  go_wp2_with (first | refine ld_stepG node_row rfl _ rfl _ _ rfl hl0.out ld.out ?_ | refine ld_stepG node_row rfl _ rfl _ _ rfl hl1.out le.out ?_ | fail)
  refine (HT.out _).mono ?_
  rintro _ w2 ⟨rfl, b2⟩
  have B2 := Lib.hid (B1.out.next b2)
  clear c0 c1 c2 c3 c4 c5 c6 d0 d1 d2 d3 d4 d5 d6 ld le b2 B1
  go_wp2_with fail
  go_ret
  exact ⟨rfl, B2.out.below⟩
set_option maxRecDepth 100000 in
set_option maxHeartbeats 4000000 in
theorem cright_c (k : Int) (x : Val) (A : Option Addr) (c : Nat) (hx : (k = 0 ∧ x = zeroV) ∨ (k = 1 ∧ x.kind ≠ 0 ∧ RightV x)) (h1 : -9223372036854775808 ≤ x.mant) (h2 : x.mant ≤ 9223372036854775807) (h3 : -9223372036854775808 ≤ x.exp) (h4 : x.exp ≤ 9223372036854775807) (w : World) :
    Calls Tryz.prog 32 #[.agg (ccs k x (zt A c)).toArray] w fun e w' => e = .returned (.bool true) ∧ Below w.heap.size w w' := by
  have B0 := Lib.hid (Bxs.start w [(42, (ccs k x (zt A c)).toArray)])
  simp only [allocAll] at B0
  have HT := Lib.hid (tsame_c A c)
  have HV := Lib.hid (fun w => (vright_c x h1 h2 h3 h4 w))
  clear h1 h2 h3 h4
  rcases hx with ⟨rfl, rfl⟩ | ⟨rfl, hk, hr⟩
  · have HS := Lib.hid (csame0_c A c)
    have hl0 : Hid ((ccs 0 zeroV (zt A c)).length = 29) := Lib.hid rfl
    have lc := Lib.hid (Seg.of (show Blk _ w.heap.size 42 (ccs 0 zeroV (zt A c)).toArray from B0.out.box 0 _ _ rfl)).lies
    have c0 := (ct_box (show Blk _ w.heap.size 42 _ from B0.out.box 0 _ _ rfl)).1.1
    clear HT HV
    generalize ccs 0 zeroV (zt A c) = cs at *
    go_enter Tryz.func32, Tryz.ntmps32
    go_wp2_with (first | refine ld_step cont_row rfl _ rfl _ _ rfl hl0.out lc.out ?_ | fail)
    refine (HS.out _).mono ?_
    rintro _ w1 ⟨rfl, b1⟩
    have B1 := Lib.hid (B0.out.next b1)
    clear c0 lc b1 B0
    go_wp2_with fail
    go_ret
    exact ⟨rfl, B1.out.below⟩
  · have hl0 : Hid ((zt A c).length = 22) := Lib.hid rfl
    have HRR := Lib.hid hr
    have HKK := Lib.hid hk
    generalize zt A c = t at *
    obtain ⟨xk, xm, xe, xt, xb, xf⟩ := x
    obtain ⟨cs, hcs⟩ : ∃ cs, cs = (ccs 1 ⟨xk, xm, xe, xt, xb, xf⟩ t).toArray := ⟨_, rfl⟩
    rw [← hcs] at B0 ⊢
    have HCS := Lib.hid hcs
    have x0b : (xk != 0) = true := by simpa using hk
    simp only [Val.cs] at HV
    dsimp only at hk
    clear hcs hr
    obtain ⟨⟨c0, c1, c2, c3, c4, c5, c6⟩, hr, -⟩ := ct_box (show Blk _ w.heap.size 42 _ from by rw [← HCS.out]; exact B0.out.box 0 _ _ rfl)
    have ld := Lib.hid hr
    dsimp only at c1 c2 c3 c4 c5 c6
    clear hr
    go_enter Tryz.func32, Tryz.ntmps32
    go_wp2_with (first | refine ld_stepG node_row rfl _ rfl _ _ rfl hl0.out ld.out ?_ | fail)
    refine (HT.out _).mono ?_
    rintro _ w1 ⟨rfl, b1⟩
    have B1 := Lib.hid (B0.out.next b1)
    clear c0 c1 c2 c3 c4 c5 c6 ld b1 B0
    obtain ⟨⟨c0, c1, c2, c3, c4, c5, c6⟩, hr, -⟩ := ct_box (show Blk _ w.heap.size 42 _ from by rw [← HCS.out]; exact B1.out.box 0 _ _ rfl)
    have ld := Lib.hid hr
    dsimp only at c1 c2 c3 c4 c5 c6
    clear hr
    go_wp2_with fail
    refine (HV.out _).mono ?_
    rintro _ w2 ⟨b8, rfl, h8, b2⟩
    obtain rfl : b8 = true := h8.2 HRR.out
    have B2 := Lib.hid (B1.out.next b2)
    clear c0 c1 c2 c3 c4 c5 c6 ld b2 B1 h8
    go_wp2_with fail
    go_ret
    exact ⟨rfl, B2.out.below⟩
end Go.Proofs.YtoicnghjjgkebaaGreatDoor
