/-
  Stores of whole structs into boxes; cells.copied at a typed content: its contract. No condition.
  cells.Store.All: its function goes through all cells with their contents. Conditions: the store lies in memory; at most twelve cells.
  (*Axis).Place at an axis that is ready, all of it live; (*Sheet).whole, Place: their contracts. Conditions: the axes, the sheet lie in memory as said.
  (*Sheet).Place; (*Sheet).inReadingOrder: its contracts. Conditions: the sheet lies in memory, its axes are ready, all of them live; at most twelve cells.
  A place with its cell built: the struct, its row. No condition.
-/
import Derived.Test.YtoicnghjjgkebaaGreatDoorM8
import Derived.Test.YtoicnghjjgkebaaGreatDoorH1
import Derived.Great.Walk
set_option linter.unusedSectionVars false
set_option linter.unusedSimpArgs false
set_option linter.unusedVariables false
set_option linter.unnecessarySimpa false
namespace Go.Proofs.YtoicnghjjgkebaaGreatDoor
open Go.RowKit
theorem sets_blk {ty : TypeId} {b : Nat} : ∀ (vs : List Value) (o : Nat) (l : List Value) (w : World), Blk w b ty l.toArray → Blk (w.setCells b o vs) b ty (putAt l o vs).toArray
  | [], _, _, _, h => h
  | v :: vs, o, l, w, h => by
    rw [World.setCells, putAt]
    have := Blk.store h o v
    rw [List.setIfInBounds_toArray] at this
    exact sets_blk vs (o + 1) _ _ this
/-- A store of a whole struct into a box. -/
theorem st_blk {ops : Array Oper} {rest : List Oper} {op : Oper} {a : Act} {w : World} {Q : Exit → Act → World → Prop} {T : TypeId} {k : Nat} (hT : RowT T k) (hgd : op.guard = none) (x y : Operand) (ho : op.op = .store T x y) {g o : Nat} {ty : TypeId} {cs vs : List Value} (hx : a.eval x = .pointer (some ⟨g, o, none⟩)) (hy : a.eval y = .agg vs.toArray) (hS : Blk w g ty cs.toArray) (hl : vs.length = k) (hb : o + k ≤ cs.length)
    (h1 : ∀ v ∈ vs, v.oneCell' = true) (h : ∀ w', Hid (Blk w' g ty (putAt cs o vs).toArray) → Hid (Chg (fun k => k ≠ g) w w') → wpList Tryz.prog ops Q rest (a.put op.dst undef) w') : wpList Tryz.prog ops Q (op :: rest) a w := by
  refine wpList_store_mid hgd T x y ho g o vs.toArray hx hy ((Seg.of hS).there (by rw [List.size_toArray, hl]; exact hb)) (by rw [List.size_toArray, hl]; exact hT.size) (all_oneCell_toArray h1) ?_
  exact h _ (Lib.hid (sets_blk vs o cs w hS)) (Lib.hid (chg_sets vs o w).1)
theorem cont_row : RowT 42 29 := ⟨⟨_, Tryz.underlying42, rfl⟩, by kernel_rfl⟩
/-- A typed content's cells. -/
def ctc (v : Val) : List Value := ccs 1 v nodeZ
def ctv (v : Val) : Value := .agg (ctc v).toArray
theorem ctc_len (v : Val) : (ctc v).length = 29 := rfl
theorem node_ones : ∀ u ∈ nodeZ, u.oneCell' = true := nf_one _ _ rfl
theorem ctc_ones (v : Val) : ∀ u ∈ ctc v, u.oneCell' = true := by
  intro u hu
  simp only [ctc, ccs, Val.cs, List.mem_cons, List.mem_append, List.not_mem_nil, or_false] at hu
  rcases hu with rfl | (rfl | rfl | rfl | rfl | rfl | rfl) | hu <;> first | rfl | exact node_ones u hu
theorem putAt_ct (k : Int) (v : Val) (t t' : List Value) (h : t'.length = 22) (h' : t.length = 22) : putAt (ccs k v t) 7 t' = ccs k v t' := by
  rw [putAt_eq _ _ _ (by simp [ccs, Val.cs, h, h'])]
  simp [ccs, Val.cs, h, h']
theorem putAt_all (cs vs : List Value) (h : vs.length = cs.length) : putAt cs 0 vs = vs := by
  rw [putAt_eq _ _ _ (by omega)]
  simp [h]
def ctZ : List Value := ccs 0 zeroV nodeZ
set_option maxRecDepth 100000 in
set_option maxHeartbeats 4000000 in
/-- cells.copied at a content that is no formula: its tree is the zero one. -/
theorem copied_c (v : Val) (t : List Value) (ht : t.length = 22) (w : World) : Calls Tryz.prog 33 #[.agg (ccs 1 v t).toArray] w fun e w' => e = .returned (ctv v) ∧ Below w.heap.size w w' := by
  have B0 := Lib.hid (Bxs.start w [(42, (ccs 1 v t).toArray), (42, ctZ.toArray)])
  simp only [allocAll] at B0
  have HZ : Hid (ctZ.toArray = #[.int .i64 0, .int .i64 0, .int .i64 0, .int .i64 0, .string ⟨#[]⟩, .bool false, .int .i64 0, .int .i64 0, .int .i64 0, .int .i64 0, .int .i64 0, .string ⟨#[]⟩, .bool false, .int .i64 0, .string ⟨#[]⟩, .int .i64 0, .int .i64 0, .int .i64 0, .int .i64 0, .bool false, .bool false, .int .i64 0, .int .i64 0, .int .i64 0, .int .i64 0, .bool false, .bool false, .int .i64 0, .slice none 0 0]) := Lib.hid rfl
  have HT := Lib.hid ht
  obtain ⟨cs, hcs⟩ : ∃ cs, cs = (ccs 1 v t).toArray := ⟨_, rfl⟩
  rw [HZ.out, ← hcs] at B0
  rw [← hcs]
  have HCS := Lib.hid hcs
  have X0 := Lib.hid (show Blk _ w.heap.size 42 cs from B0.out.box 0 _ _ rfl)
  have X1 := Lib.hid (B0.out.box 1 _ _ rfl)
  have c0 := (ct_box (show Blk _ w.heap.size 42 (ccs 1 v t).toArray from by rw [← hcs]; exact X0.out)).1.1
  clear hcs ht
  have HBB := Lib.hid B0.out.below
  clear B0
  have X0' := Lib.hid (show Blk _ w.heap.size 42 (ccs 1 v t).toArray from by rw [← HCS.out]; exact X0.out)
  have hl2 : Hid (nodeZ.length = 22) := Lib.hid rfl
  have HB7 : Hid (7 + 22 ≤ (ccs 1 v t).length) := Lib.hid (by simp [ccs, Val.cs, HT.out])
  go_enter Tryz.func33, Tryz.ntmps33
  go_upto_region 3 with fail
  clear X0 c0
  generalize (w.alloc _).alloc _ = V at *
  have hl3 : Hid ((ccs 1 v nodeZ).length = 29) := Lib.hid rfl
  have HB8 : Hid (0 + 29 ≤ ctZ.length) := Lib.hid (by decide)
  go_wp2_with (first | (refine st_blk node_row rfl _ _ rfl (vs := nodeZ) rfl rfl X0'.out hl2.out HB7.out node_ones ?_; intro W2 hB2 hC2; rw [putAt_ct _ _ _ _ hl2.out HT.out] at hB2; have X1' := Lib.hid (X1.out.kept (hC2.out.block _ X1.out.lt (fun h => by have h9 : w.heap.size + 1 = w.heap.size := h; omega))); rw [← HZ.out] at X1'; have hW2 := Lib.hid (HBB.out.trans ((hC2.out.below (n := w.heap.size) (by have := HBB.out.size; omega) (fun k hk => by omega)))); have ld := Lib.hid (Seg.of hB2.out).lies; clear X0' X1 HBB) | refine ld_step cont_row rfl _ rfl _ _ rfl hl3.out ld.out ?_ | (refine st_blk cont_row rfl _ _ rfl (vs := ccs 1 v nodeZ) rfl rfl X1'.out hl3.out HB8.out (ctc_ones v) ?_; intro W3 hB3 hC3; rw [show putAt ctZ 0 (ccs 1 v nodeZ) = ccs 1 v nodeZ from putAt_all _ _ rfl] at hB3))
  refine bodyPost_ret (results_cell_row rfl _ W3 (w.heap.size + 1) 42 (ctc v).toArray (0, 0) _ rfl hB3.out Tryz.underlying42 rfl (by kernel_rfl)) rfl ⟨rfl, hW2.out.trans (hC3.out.below (n := w.heap.size) hW2.out.size (fun k hk => by omega))⟩
end Go.Proofs.YtoicnghjjgkebaaGreatDoor
namespace Go.Proofs.YtoicnghjjgkebaaGreatDoor
open Go.RowKit Go.Shelf
attribute [local go_sem] Oper.semAt_some
def kvv (kvs : List (Cel × Val)) : List (Cel × Value) := kvs.map fun p => (p.1, ctv p.2)
theorem getG_kvv (k : Cel) : ∀ kvs : List (Cel × Val), getG k (kvv kvs) = (getG k kvs).map ctv
  | [] => rfl
  | (q, v) :: r => by
    simp only [kvv, List.map_cons, getG]
    split
    · rfl
    · exact getG_kvv k r
theorem kvv_fst (kvs : List (Cel × Val)) : (kvv kvs).map Prod.fst = kvs.map Prod.fst := by simp [kvv]
/-- The contents of keys, in the keys' order. -/
theorem vals_of {kvs : List (Cel × Val)} (hn : (kvs.map Prod.fst).Nodup) {xs : List Cel} (hp : xs.Perm (kvs.map Prod.fst)) : ∃ zs : List (Cel × Val), zs.map Prod.fst = xs ∧ zs.Perm kvs ∧ ∀ z ∈ zs, getG z.1 kvs = some z.2 := by
  refine ⟨xs.map fun k => (k, (getG k kvs).getD zeroV), by rw [List.map_map]; exact List.map_id' xs, ?_, ?_⟩
  · have e : (kvs.map Prod.fst).map (fun k => (k, (getG k kvs).getD zeroV)) = kvs := by
      rw [List.map_map]
      conv => rhs; rw [← List.map_id kvs]
      refine List.map_congr_left fun p hp => ?_
      obtain ⟨k, v⟩ := p
      simp only [Function.comp, id, getG_mem hn hp, Option.getD_some]
    have := hp.map fun k => (k, (getG k kvs).getD zeroV)
    rwa [e] at this
  · intro z hz
    obtain ⟨k, hk, rfl⟩ := List.mem_map.1 hz
    have hk2 := hp.subset hk
    obtain ⟨⟨k', v⟩, hm, rfl⟩ := List.mem_map.1 hk2
    simp only [getG_mem hn hm, Option.getD_some]
/-- The store's map. -/
def StoM (w : World) (m : Option Nat) (kvs : List (Cel × Val)) : Prop := match m with
  | none => kvs = []
  | some b => MapG celv w b (kvv kvs)
theorem StoM.kept {w w' : World} {m : Option Nat} {kvs : List (Cel × Val)} (h : StoM w m kvs) (k : ∀ b, m = some b → w'.heap[b]? = w.heap[b]?) : StoM w' m kvs := by
  cases m with
  | none => exact h
  | some b => exact MapG.kept h (k b rfl)
theorem StoM.lt {w : World} {b : Nat} {kvs : List (Cel × Val)} (h : StoM w (some b) kvs) : b < w.heap.size := MapG.lt h
def encA (x : Cel × Val) : Array Value := #[celv x.1, ctv x.2]
/-- What a round may not turn. -/
def AllG (o : Obj) : Prop := match o with
  | .cells _ e _ => e = 29 ∨ e = 116 ∨ e = 68
  | .map .. => True
  | _ => False
set_option maxRecDepth 100000 in
set_option maxHeartbeats 2000000 in
theorem sall_c (p : Option Addr) (w : World) : Calls Tryz.prog 186 #[.pointer p] w fun e w' => e = .returned (.func (.func 251) #[] #[.pointer (some ⟨w.heap.size, 0, none⟩)]) ∧ w' = w.alloc (.cells #[.pointer p] 68) := by
  go_enter Tryz.func186, Tryz.ntmps186
  go_wp2
  go_ret
  exact ⟨rfl, rfl⟩
set_option maxRecDepth 100000 in
set_option maxHeartbeats 4000000 in
theorem sortkeys_c (m : Option Nat) (kvs : List (Cel × Val)) (h12 : kvs.length ≤ 12) (Bn : Nat) (w : World) (hB : Blk w Bn 114 #[.map m]) (hM : StoM w m kvs) :
    Calls Tryz.prog 252 #[.func (.func 304) #[] #[.pointer (some ⟨Bn, 0, none⟩)], .func (.func 254) #[] #[]] w (KeyP (fun xs => xs.Perm (kvs.map Prod.fst)) w) := by
  cases m with
  | none =>
    have h0 : kvs = [] := hM
    subst h0
    refine (sortedf_c Bn (fun xs => xs = []) (fun _ => True) 0 (by omega) (fun xs h => by rw [h]; simp) w (fun W hW => keys_none 2 (by omega) Bn W (hB.kept (hW.block _ hB.lt)))).mono ?_
    rintro e w' ⟨A, c, xs, h1, ⟨ys, h2, h3⟩, h4⟩
    exact ⟨A, c, xs, h1, ⟨ys, by rw [h2]; exact .refl _, h3⟩, h4⟩
  | some b =>
    refine sortedf_c Bn (fun xs => xs.Perm (kvs.map Prod.fst)) (fun _ => True) kvs.length (by omega) (fun xs h => by rw [h.length_eq]; simpa using h12) w (fun W hW => ?_)
    have hM2 : MapG celv w b (kvv kvs) := hM
    have := keys_some 2 (by omega) Bn b (kvv kvs) W (hB.kept (hW.block _ hB.lt)) (hM2.kept (hW.block _ hM2.lt))
    rw [kvv_fst] at this
    simpa [kvv] using this
theorem zeroCt (w : World) : (zeroValue 42).run Tryz.prog w = .ok (.agg ctZ.toArray) w := by kernel_rfl
/-- What the walk leans on. -/
structure AllI (Bn pS : Nat) (m : Option Nat) (kvs : List (Cel × Val)) (A : Option Addr) (zs : List (Cel × Val)) (W : World) : Prop where
  box : Blk W Bn 68 #[.pointer (some ⟨pS, 0, none⟩)]
  sto : Blk W pS 116 #[.map m]
  map : StoM W m kvs
  row : zs = [] ∨ ∃ g, A = some ⟨g, 0, none⟩ ∧ Seg W g ((zs.map Prod.fst).flatMap Cel.cs) ∧ ∃ cs, W.heap[g]? = some (.cells cs 29 (0, 0))
theorem AllI.keep {Bn pS : Nat} {m : Option Nat} {kvs : List (Cel × Val)} {A : Option Addr} {zs : List (Cel × Val)} {W W' : World} (h : AllI Bn pS m kvs A zs W) (k : KG AllG W W') : AllI Bn pS m kvs A zs W' := by
  refine ⟨k.keep _ _ h.box (.inr (.inr rfl)), k.keep _ _ h.sto (.inr (.inl rfl)), ?_, ?_⟩
  · cases m with
    | none => exact h.map
    | some b =>
      obtain ⟨es, c, h1, h2⟩ := (show MapG celv W b (kvv kvs) from h.map)
      exact (⟨es, c, k.keep _ _ h1 trivial, h2⟩ : MapG celv W' b (kvv kvs))
  · rcases h.row with h0 | ⟨g, rfl, hs, cs, hg⟩
    · exact .inl h0
    · exact .inr ⟨g, rfl, hs.kept ((k.keep _ _ hg (.inl rfl)).trans hg.symm), cs, k.keep _ _ hg (.inl rfl)⟩
theorem yield_two {α : Type} {J Jx : List α → World → Prop} {G : Obj → Prop} {pre : List α} {x : α} {W : World} (e : Ending) (W' : World) (h : (e = .returned (.bool true) ∧ J (pre ++ [x]) W' ∧ KG G W W') ∨ (e = .returned (.bool false) ∧ Jx (pre ++ [x]) W')) :
    ∃ bb, e = .returned (.bool bb) ∧ Hid (if bb then J (pre ++ [x]) W' ∧ KG G W W' else Jx (pre ++ [x]) W') := by
  rcases h with ⟨rfl, h1, h2⟩ | ⟨rfl, h1⟩
  · exact ⟨true, rfl, Lib.hid ⟨h1, h2⟩⟩
  · exact ⟨false, rfl, Lib.hid h1⟩
theorem wp_fin {P : Program} {c : Code} {Q : Exit → Act → World → Prop} {a : Act} {w : World} (A : Act) (W : World) (fin : Q .normal A W) (main : Q .normal A W → c.wp P Q a w) : c.wp P Q a w := main fin
theorem fin_all {R : World → Prop} {G : Prop} (X : World → Prop) (h1 : ∀ w, R w → X w) (h2 : (∀ w, R w → X w) → G) : G := h2 h1
/-- A load of a whole struct, at the operation. -/
theorem opin_ld {T : TypeId} {k : Nat} (hT : RowT T k) {F : Fence} {n : Nat} {o : Oper} {a : Act} {w : World} {K : Act → World → Prop} {Q : Exit → Act → World → Prop} (hF : F.round = none) (x : Operand) (ho : o.op = .load T x) (b off : Nat) (hx : a.eval x = .pointer (some ⟨b, off, none⟩)) {cs : List Value} (hl : cs.length = k) (hc : w.rangeAt b off cs)
    (h : K (a.put o.dst (.agg cs.toArray)) w) : o.wpIn F n Tryz.prog a w K Q := by
  obtain ⟨d, hd, hr⟩ := hT.und
  unfold Oper.wpIn
  have hsem : (o.semAt F.round a.eval).run Tryz.prog w = .ok (.value (.agg cs.toArray)) w := by
    rw [hF]
    unfold Oper.semAt
    simp only [execOp, ho, hx, Instr.loadAt, Instr.sureAddr, Sem.run_bind, Sem.run_pure, Result.andThen_ok, run_loadVar_mid w b off T cs d hc hd hr (by rw [hl]; exact hT.size)]
  refine ⟨fun f hf => ?_, by rw [hsem]; exact h⟩
  simp [Oper.about, ho] at hf
set_option maxRecDepth 100000 in
set_option maxHeartbeats 4000000 in
theorem all_seq (n : Nat) (hn : 1 ≤ n) (Bn pS : Nat) (m : Option Nat) (kvs : List (Cel × Val)) (h12 : kvs.length ≤ 12) (w : World) (hB : Blk w Bn 68 #[.pointer (some ⟨pS, 0, none⟩)]) (hP : Blk w pS 116 #[.map m]) (hM : StoM w m kvs) :
    SeqQ Fence.wide n Tryz.prog 251 #[.pointer (some ⟨Bn, 0, none⟩)] encA (KG AllG) (fun xs => xs.Perm kvs) (fun _ => True) kvs.length w := by
  intro l J Jx W hW hJ hJx hY h0
  have hB := hB.kept (hW.block _ hB.lt)
  have hP := hP.kept (hW.block _ hP.lt)
  have hM := hM.kept (w' := W) (fun b e => by subst e; exact hW.block _ hM.lt)
  have c0 := hB.cell 0
  have p0 := hP.cell 0
  have HJ := Lib.hid hJ
  have HY := Lib.hid hY
  have H0 := Lib.hid h0
  have HS := Lib.hid (And.intro hB (And.intro hP hM))
  have H12 := Lib.hid h12
  clear hJ hY h0 hJx hW hB hP hM h12
  refine callsIn_of_wp Tryz.func251 rfl trivial ?_ rfl
  simp only [Tryz.ntmps251, List.size_toArray, List.length_cons, List.length_nil, Nat.reduceAdd, Nat.reduceSub, Array.replicate_succ, Array.replicate_zero, List.push_toArray, List.append_toArray, List.nil_append, List.cons_append]
  have hb1 : Below W.heap.size W (W.alloc (.cells #[.map m] 114)) := (Below.refl _ _).alloc (Nat.le_refl _) _
  have HK := Lib.hid (sortkeys_c m kvs H12.out W.heap.size _ (Blk.new W 114 #[.map m]) (HS.out.2.2.kept (fun b e => by subst e; exact hb1.block _ HS.out.2.2.lt)))
  have HB1 := Lib.hid hb1
  clear hb1
  refine wpIn_wide.2 ?_
  go_wp2_with (refine (keys_c m _).mono ?_; rintro _ _ ⟨rfl, rfl⟩)
  refine HK.out.mono ?_
  rintro _ w2 ⟨A, c, xs, rfl, ⟨ys, hy, hp⟩, hA, hb2⟩
  have hnd : (kvs.map Prod.fst).Nodup := by
    have h := HS.out.2.2
    cases m with
    | none => rw [show kvs = [] from h]; simp
    | some b => have := MapG.nodup (show MapG celv W b (kvv kvs) from h); rwa [kvv_fst] at this
  obtain ⟨zs, hz1, hz2, hz3⟩ := vals_of hnd (hp.trans hy)
  have hB2 : Below W.heap.size W w2 := HB1.out.trans (hb2.mono HB1.out.size)
  have hI : AllI Bn pS m kvs A zs w2 := by
    refine ⟨HS.out.1.kept (hB2.block _ HS.out.1.lt), HS.out.2.1.kept (hB2.block _ HS.out.2.1.lt), HS.out.2.2.kept (fun b e => by subst e; exact hB2.block _ HS.out.2.2.lt), ?_⟩
    rcases hA with ⟨-, h⟩ | ⟨g, h1, -, h2, h3⟩
    · left
      rw [h] at hz1
      exact List.map_eq_nil_iff.1 hz1
    · exact .inr ⟨g, h1, by rw [hz1]; exact h2, h3⟩
  have HI := Lib.hid hI
  have HZ := Lib.hid (And.intro hz2 hz3)
  have HJ2 := Lib.hid (HJ.out [] W w2 H0.out (.of hB2))
  have hln : xs.length = zs.length := by rw [← hz1, List.length_map]
  rw [hln]
  clear hp hy hA hb2 hnd hz1 hz2 hz3 hB2 hI hln HK HB1 HS H0 c0 p0
  go_wp2_with fail
  refine (wpIn_wide (n := n)).1 ?_
  gi_loopw [16] (fun iv wr => ∃ i : Nat, i ≤ zs.length ∧ iv = .int .i64 i ∧ Hid (J (zs.take i) wr) ∧ Hid (AllI Bn pS m kvs A zs wr)) (fun iv _ => zs.length - (intOf iv).toNat)
  case atStart => exact ⟨0, Nat.zero_le _, rfl, HJ2, HI⟩
  case round =>
    clear HJ2 HI
    obtain ⟨i, hi, rfl, hJ, hI⟩ := hrel
    by_cases hlt : i < zs.length
    · have hlt2 : (i : Int) < (zs.length : Int) := by omega
      have h0 : (0 : Int) ≤ (i : Int) := by omega
      have HT := Lib.hid (List.take_succ_eq_append_getElem hlt)
      have HM := Lib.hid (HZ.out.2 _ (List.getElem_mem hlt))
      obtain ⟨g, rfl, hs, cs, hg⟩ := hI.out.row.resolve_left (fun e => by rw [e] at hlt; simp at hlt)
      have hr := seg_el (f := Cel.cs) (k := 4) Cel.length hs (i := i) (u := zs[i].1) (by rw [List.getElem?_map, List.getElem?_eq_getElem hlt]; rfl)
      generalize zs[i] = z at *
      obtain ⟨⟨⟨a1, a2⟩, a3, a4⟩, v⟩ := z
      have e0 := hr 0 _ rfl
      have e1 := hr 1 _ rfl
      have e2 := hr 2 _ rfl
      have e3 := hr 3 _ rfl
      simp only [Nat.add_zero] at e0
      have HN := Lib.hid hlt
      have HLT := Lib.hid (show (zs.take i).length < kvs.length by rw [List.length_take, ← HZ.out.1.length_eq]; omega)
      clear hr hs hg hlt
      obtain ⟨b, rfl⟩ : ∃ b, m = some b := by
        cases m with
        | none => rw [show kvs = [] from hI.out.map] at HM; cases HM.out
        | some b => exact ⟨b, rfl⟩
      have hmap := (show MapG celv wr b (kvv kvs) from hI.out.map)
      have hb1 : Below wr.heap.size wr (wr.alloc (.cells #[.int .i64 a1, .int .i64 a2, .int .i64 a3, .int .i64 a4] 29)).drew := ((Below.refl _ _).alloc (Nat.le_refl _) _).drew
      have hb2 : Below wr.heap.size wr ((wr.alloc (.cells #[.int .i64 a1, .int .i64 a2, .int .i64 a3, .int .i64 a4] 29)).drew.alloc (.cells ctZ.toArray 42)) := (hb1.alloc hb1.size _)
      have hl1 := (hmap.kept (hb1.block b hmap.lt)).look keyCell (M := 114) (E := 42) Tryz.underlying114 (zeroCt _) ((a1, a2), (a3, a4)) true
      have hl2 := (hmap.kept (hb2.block b hmap.lt)).look keyCell (M := 114) (E := 42) Tryz.underlying114 (zeroCt _) ((a1, a2), (a3, a4)) true
      rw [getG_kvv, HM.out] at hl1 hl2
      simp only [Option.map_some, Option.getD_some, Option.isSome_some, if_true, celv, ctv] at hl1 hl2
      have HI1 := Lib.hid (hI.out.keep (.of hb1))
      have HJ1 := Lib.hid (HJ.out _ _ _ hJ.out (.of hb1))
      have HZZ : Hid (ctZ.toArray = #[.int .i64 0, .int .i64 0, .int .i64 0, .int .i64 0, .string ⟨#[]⟩, .bool false, .int .i64 0, .int .i64 0, .int .i64 0, .int .i64 0, .int .i64 0, .string ⟨#[]⟩, .bool false, .int .i64 0, .string ⟨#[]⟩, .int .i64 0, .int .i64 0, .int .i64 0, .int .i64 0, .bool false, .bool false, .int .i64 0, .int .i64 0, .int .i64 0, .int .i64 0, .bool false, .bool false, .int .i64 0, .slice none 0 0]) := Lib.hid rfl
      have HX4 := Lib.hid ((Blk.new wr 29 #[.int .i64 a1, .int .i64 a2, .int .i64 a3, .int .i64 a4]).kept (w' := (wr.alloc (.cells #[.int .i64 a1, .int .i64 a2, .int .i64 a3, .int .i64 a4] 29)).drew) rfl)
      have C0 : AllCells (wr.alloc (.cells #[.int .i64 a1, .int .i64 a2, .int .i64 a3, .int .i64 a4] 29)).drew [(⟨Bn, 0, none⟩, .pointer (some ⟨pS, 0, none⟩)), (⟨pS, 0, none⟩, .map (some b)), (⟨wr.heap.size, 0, none⟩, .int .i64 a1), (⟨wr.heap.size, 1, none⟩, .int .i64 a2), (⟨wr.heap.size, 2, none⟩, .int .i64 a3), (⟨wr.heap.size, 3, none⟩, .int .i64 a4)] :=
        ⟨HI1.out.box.cell 0, HI1.out.sto.cell 0, HX4.out.cell 0, HX4.out.cell 1, HX4.out.cell 2, HX4.out.cell 3, trivial⟩
      have C1 : AllCells ((wr.alloc (.cells #[.int .i64 a1, .int .i64 a2, .int .i64 a3, .int .i64 a4] 29)).drew.alloc (.cells ctZ.toArray 42)) [(⟨Bn, 0, none⟩, .pointer (some ⟨pS, 0, none⟩)), (⟨pS, 0, none⟩, .map (some b)), (⟨wr.heap.size, 0, none⟩, .int .i64 a1), (⟨wr.heap.size, 1, none⟩, .int .i64 a2), (⟨wr.heap.size, 2, none⟩, .int .i64 a3), (⟨wr.heap.size, 3, none⟩, .int .i64 a4)] := AllCells.below C0 ((Below.refl _ _).alloc (Nat.le_refl _) _)
      rw [HZZ.out] at hl2 C1
      have hl0 : Hid ((ctc v).length = 29) := Lib.hid rfl
      have hlz : Hid (ctZ.length = 29) := Lib.hid rfl
      have HC1 := Lib.hid (ctc_ones v)
      have HCV := Lib.hid (fun W => copied_c v nodeZ rfl W)
      have HV : Hid (ctv v = .agg (ctc v).toArray) := Lib.hid rfl
      have HCT : Hid (ccs 1 v nodeZ = ctc v) := Lib.hid rfl
      rw [HCT.out] at HCV
      rw [HV.out] at HCV
      have HV2 := Lib.hid (show ctv v = .agg (ctc v).toArray from rfl)
      generalize hct : ctc v = ct at *
      have HCTE := Lib.hid hct
      clear hct hmap hb1 hb2 hJ hI HM
      obtain ⟨V, HHV⟩ : ∃ V, Hid (V = (wr.alloc (.cells #[.int .i64 a1, .int .i64 a2, .int .i64 a3, .int .i64 a4] 29)).drew) := ⟨_, Lib.hid rfl⟩
      have hVs : Hid (V.heap.size = wr.heap.size + 1) := Lib.hid (by rw [HHV.out]; simp [World.drew])
      have H1 : AllCells (V.alloc (.cells ct.toArray 42)) [(⟨Bn, 0, none⟩, .pointer (some ⟨pS, 0, none⟩)), (⟨pS, 0, none⟩, .map (some b)), (⟨wr.heap.size, 0, none⟩, .int .i64 a1), (⟨wr.heap.size, 1, none⟩, .int .i64 a2), (⟨wr.heap.size, 2, none⟩, .int .i64 a3), (⟨wr.heap.size, 3, none⟩, .int .i64 a4)] := by rw [HHV.out]; exact AllCells.below C0 ((Below.refl _ _).alloc (Nat.le_refl _) _)
      gi_wp2
      refine wpIn_wide.2 ?_
      refine wp_fin ?A (V.alloc (.cells ct.toArray 42)) ?fin ?main
      case main =>
        intro hfin
        have HF := Lib.hid hfin
        clear hfin
        refine rfree [0, 1, 2, 3, 4] 7 (by kernel_rfl) (fun _ _ _ _ _ h => h) C0 ?_
        intro hne hu; try simp only [AllCells] at hu
        simp only [pick, pk]
        repeat (go_big_quiet_step (fail))
        refine wpQuiet_nil ?_; clear hne hu
        rw [← HHV.out] at hl1 hl2 C0 C1 ⊢
        refine anyN_twoL 5 9 (by kernel_rfl) ?_ ?_ <;> simp only [pk]
        · go_wp2_with fail
          first | refine And.intro (fun _ => C0) ?_ | refine And.intro C0 ?_ | skip
          refine rmore [6, 7, 8] 3 (by kernel_rfl) (fun _ _ _ _ _ h => h) C0 ?_
          intro hne hu; try simp only [AllCells] at hu
          simp only [pick, pk]
          repeat (go_big_quiet_step (fail))
          refine wpQuiet_nil ?_; clear hne hu
          refine anyN_oneL 9 (by kernel_rfl) ?_; simp only [pk]
          go_wp2_with fail
          first | refine And.intro (fun _ => C1) ?_ | refine And.intro C1 ?_ | skip
          refine anyN_oneL 10 (by kernel_rfl) ?_; simp only [pk]
          go_wp2_with (refine st_new cont_row rfl _ _ rfl (cs := ct) (z := ctZ) rfl rfl hl0.out hlz.out HC1.out ?_)
          simp only [Act.put, List.setIfInBounds_toArray, List.set_cons_succ, List.set_cons_zero]
          first | refine And.intro (fun _ => H1) ?_ | refine And.intro H1 ?_ | skip
          refine rmore [11] 0 (by kernel_rfl) (fun _ _ _ _ _ h => h) H1 ?_
          intro hne hu; try simp only [AllCells] at hu
          simp only [pick, pk]
          repeat (go_big_quiet_step (fail))
          refine wpQuiet_nil ?_; clear hne hu
          refine ⟨by kernel_rfl, ?_⟩
          exact HF.out
        · go_wp2_with fail
          first | refine And.intro (fun _ => C1) ?_ | refine And.intro C1 ?_ | skip
          refine anyN_oneL 5 (by kernel_rfl) ?_; simp only [pk]
          go_wp2_with fail
          first | refine And.intro (fun _ => C1) ?_ | refine And.intro C1 ?_ | skip
          refine rmore [6, 7, 8] 2 (by kernel_rfl) (fun _ _ _ _ _ h => h) C1 ?_
          intro hne hu; try simp only [AllCells] at hu
          simp only [pick, pk]
          repeat (go_big_quiet_step (fail))
          refine wpQuiet_nil ?_; clear hne hu
          refine anyN_oneL 10 (by kernel_rfl) ?_; simp only [pk]
          go_wp2_with (refine st_new cont_row rfl _ _ rfl (cs := ct) (z := ctZ) rfl rfl hl0.out hlz.out HC1.out ?_)
          simp only [Act.put, List.setIfInBounds_toArray, List.set_cons_succ, List.set_cons_zero]
          first | refine And.intro (fun _ => H1) ?_ | refine And.intro H1 ?_ | skip
          refine rmore [11] 0 (by kernel_rfl) (fun _ _ _ _ _ h => h) H1 ?_
          intro hne hu; try simp only [AllCells] at hu
          simp only [pick, pk]
          repeat (go_big_quiet_step (fail))
          refine wpQuiet_nil ?_; clear hne hu
          refine ⟨by kernel_rfl, ?_⟩
          exact HF.out
      case fin =>
        rw [← HHV.out] at HI1 HJ1 HX4 C0 C1 hl1 hl2
        have hb3 : Below V.heap.size V (V.alloc (.cells ct.toArray 42)).drew := ((Below.refl _ _).alloc (Nat.le_refl _) _).drew
        have HI2 := Lib.hid (HI1.out.keep (.of hb3))
        have HJ2 := Lib.hid (HJ.out _ _ _ HJ1.out (.of hb3))
        have HX5 := Lib.hid (HX4.out.kept (hb3.block _ HX4.out.lt))
        have HX6 := Lib.hid ((Blk.new V 42 ct.toArray).kept (w' := (V.alloc (.cells ct.toArray 42)).drew) rfl)
        clear C0 C1 H1 hl1 hl2 hb3
        gi_wp2
        refine wpIn_region_any (by kernel_rfl) ?_
        try (change wpAnyIn _ _ _ _ _ _ _ _ _ (World.drew _))
        generalize (V.alloc (.cells ct.toArray 42)).drew = V3 at *
        have hr6 : V3.rangeAt V.heap.size 0 ct := (Seg.of HX6.out).lies
        have hr5 : V3.rangeAt wr.heap.size 0 [.int .i64 a1, .int .i64 a2, .int .i64 a3, .int .i64 a4] := (Seg.of (cs := [.int .i64 a1, .int .i64 a2, .int .i64 a3, .int .i64 a4]) HX5.out).lies
        refine wpAnyIn_ready (rs := [0]) (by kernel_rfl) (by simp) ?_
        refine AllReadyIn.cons rfl (fun K hK => ?_) AllReadyIn.nil
        go_simp
        refine hK _ _ ?_; clear hK K
        refine wpAnyIn_ready (rs := [1]) (by kernel_rfl) (by simp) ?_
        refine AllReadyIn.cons rfl (fun K hK => ?_) AllReadyIn.nil
        go_simp
        refine hK _ _ ?_; clear hK K
        refine wpAnyIn_take (i := 2) (v := ?v) rfl rfl (by kernel_rfl) (by kernel_rfl) (by kernel_rfl) (fun _ _ _ h => h) ⟨Or.inl ⟨by rfl, ?hy⟩, fun _ => rfl⟩ ?rest
        case hy => intro w; go_simp; with_reducible rfl
        case rest =>
          refine fin_all (R := fun w9 => Below V3.heap.size V3 w9) ?X ?h1 ?h2
          case h2 =>
            intro HTT
            have HT9 := Lib.hid HTT
            clear HTT
            refine wpAnyIn_ready (rs := [3, 4]) (by kernel_rfl) (by simp) ?_
            refine AllReadyIn.cons rfl (fun K hK => ?_) (AllReadyIn.cons rfl (fun K hK => ?_) AllReadyIn.nil)
            · skip
              rw [if_pos (by rfl)]
              refine opin_ld cell_row rfl _ rfl _ _ rfl (cs := [.int .i64 a1, .int .i64 a2, .int .i64 a3, .int .i64 a4]) rfl hr5 ?_
              refine hK _ _ ?_; clear hK K
              refine wpAnyIn_ready (rs := [4]) (by kernel_rfl) (by simp) ?_
              refine AllReadyIn.cons rfl (fun K hK => ?_) AllReadyIn.nil
              rw [if_pos (by rfl)]
              refine opin_ld cont_row rfl _ rfl _ _ rfl hl0.out hr6 ?_
              refine hK _ _ ?_; clear hK K
              refine wpAnyIn_ready (rs := [5]) (by kernel_rfl) (by simp) ?_
              refine AllReadyIn.cons rfl (fun K hK => ?_) AllReadyIn.nil
              rw [if_pos (by rfl)]
              go_simp
              gi_wp2_with (refine ⟨trivial, CallsIn.mono (callsIn_wide.2 (HCV.out _)) ?_⟩; rintro _ w9 ⟨rfl, b9⟩)
              exact HT9.out _ b9
            · skip
              rw [if_pos (by rfl)]
              refine opin_ld cont_row rfl _ rfl _ _ rfl hl0.out hr6 ?_
              refine hK _ _ ?_; clear hK K
              refine wpAnyIn_ready (rs := [3, 5]) (by kernel_rfl) (by simp) ?_
              refine AllReadyIn.cons rfl (fun K hK => ?_) (AllReadyIn.cons rfl (fun K hK => ?_) AllReadyIn.nil)
              · skip
                rw [if_pos (by rfl)]
                refine opin_ld cell_row rfl _ rfl _ _ rfl (cs := [.int .i64 a1, .int .i64 a2, .int .i64 a3, .int .i64 a4]) rfl hr5 ?_
                refine hK _ _ ?_; clear hK K
                refine wpAnyIn_ready (rs := [5]) (by kernel_rfl) (by simp) ?_
                refine AllReadyIn.cons rfl (fun K hK => ?_) AllReadyIn.nil
                rw [if_pos (by rfl)]
                go_simp
                gi_wp2_with (refine ⟨trivial, CallsIn.mono (callsIn_wide.2 (HCV.out _)) ?_⟩; rintro _ w9 ⟨rfl, b9⟩)
                exact HT9.out _ b9
              · skip
                rw [if_pos (by rfl)]
                go_simp
                gi_wp2_with (refine ⟨trivial, CallsIn.mono (callsIn_wide.2 (HCV.out _)) ?_⟩; rintro _ w9 ⟨rfl, b9⟩)
                have hr7 : w9.rangeAt wr.heap.size 0 [.int .i64 a1, .int .i64 a2, .int .i64 a3, .int .i64 a4] := (Seg.of (cs := [.int .i64 a1, .int .i64 a2, .int .i64 a3, .int .i64 a4]) (HX5.out.kept (b9.block _ HX5.out.lt))).lies
                refine wpAnyIn_ready (rs := [3]) (by kernel_rfl) (by simp) ?_
                refine AllReadyIn.cons rfl (fun K hK => ?_) AllReadyIn.nil
                rw [if_pos (by rfl)]
                refine opin_ld cell_row rfl _ rfl _ _ rfl (cs := [.int .i64 a1, .int .i64 a2, .int .i64 a3, .int .i64 a4]) rfl hr7 ?_
                refine hK _ _ ?_; clear hK K
                exact HT9.out _ b9
          case h1 =>
            intro w9 b9
            have HI9 := Lib.hid (HI2.out.keep (.of b9))
            have HJ9 := Lib.hid (HJ.out _ _ _ HJ2.out (.of b9))
            obtain ⟨fn, tmps, assign, body, hy, hRR⟩ := HY.out (zs.take i) (((a1, a2), (a3, a4)), v) w9 HJ9.out HLT.out
            have HRR := Lib.hid (hRR.mono (yield_two (Jx := Jx) (J := J) (x := (((a1, a2), (a3, a4)), v)) (pre := zs.take i) (W := w9)))
            unfold encA at hy
            simp only [celv] at hy
            rw [HV2.out] at hy
            clear hRR b9 hr5 hr6
            refine wpAnyIn_ready (rs := [6]) (by kernel_rfl) (by simp) ?_
            refine AllReadyIn.cons rfl (fun K hK => ?_) AllReadyIn.nil
            go_simp
            gi_wp2_with (refine HRR.out.mono ?_; rintro e W3 ⟨bb, rfl, hbb⟩)
            refine wpAnyIn_ready (rs := [7]) (by kernel_rfl) (by simp) ?_
            refine AllReadyIn.cons rfl (fun K hK => ?_) AllReadyIn.nil
            go_simp
            refine hK _ _ ?_; clear hK K
            refine wpAnyIn_ready (rs := [8]) (by kernel_rfl) (by simp) ?_
            refine AllReadyIn.cons rfl (fun K hK => ?_) AllReadyIn.nil
            go_simp
            refine hK _ _ ?_; clear hK K
            refine wpAnyIn_done (by kernel_rfl) ?_ _
            have h12 : zs.length ≤ 12 := by rw [HZ.out.1.length_eq]; exact H12.out
            have h13 : i < zs.length := HN.out
            cases bb
            · have hx := hbb.out
              simp only [Bool.false_eq_true, if_false] at hx
              gi_wp2
              refine bodyPost_ret (results_none rfl _ _ _) rfl ?_
              first | exact ⟨⟨_, rfl⟩, .inr ⟨_, trivial, hx⟩⟩ | exact ⟨⟨_, rfl⟩, .inr ⟨_, hx⟩⟩
            · have hx := hbb.out
              simp only [if_true] at hx
              obtain ⟨hj3, hk3⟩ := hx
              have HJ3 := Lib.hid hj3
              have HI3 := Lib.hid (HI9.out.keep hk3)
              clear hj3 hk3 hbb
              gi_wp2
              go_roundw
              case rel => exact ⟨i + 1, HN.out, by go_num, by rw [HT.out]; exact HJ3, HI3⟩
              case measure => simp [intOf]; omega
    · have hlt2 : ¬ (i : Int) < (zs.length : Int) := by omega
      have HE := Lib.hid (show zs.take i = zs from List.take_of_length_le (by omega))
      gi_wp2
      go_end0
      exact ⟨⟨_, rfl⟩, .inl ⟨zs, HZ.out.1, by rw [← HE.out]; exact hJ.out⟩⟩
end Go.Proofs.YtoicnghjjgkebaaGreatDoor
namespace Go.Proofs.YtoicnghjjgkebaaGreatDoor
open Go.RowKit
set_option maxRecDepth 100000 in
set_option maxHeartbeats 1000000 in
theorem ready_r (w : World) (own : Tags) (t p : Nat) (ids : List Id) (live : List Bool) (h : Ready w own t p ids live) : Calls Tryz.prog 119 #[.pointer (some ⟨p, 0, none⟩)] w fun e w' => e = .returned (.tuple #[]) ∧ w' = w := by
  obtain ⟨vI, vL, s, g, vV, a, m⟩ := h
  have c2 := a.blk.cell 2
  simp at c2
  clear a m
  go_enter Tryz.func119, Tryz.ntmps119
  go_wp2
  exact bodyPost_ret (results_none rfl _ _ _) rfl ⟨rfl, rfl⟩
/-- Where a live id stands. -/
def plV (ids : List Id) (k : Id) : Value := if k ∈ ids then .tuple #[.int .i64 (ids.idxOf k : Nat), .bool true] else .tuple #[.int .i64 0, .bool false]
theorem ahead_all (n c i : Nat) (h : i < n) : (aheadOf (List.replicate n true) c)[i]? = some (.int .i64 ((c + i : Nat) : Int)) := by
  induction n generalizing c i with
  | zero => omega
  | succ n ih =>
    cases i with
    | zero => simp [List.replicate_succ, aheadOf]
    | succ i =>
      simp only [List.replicate_succ, aheadOf, List.getElem?_cons_succ, if_true]
      rw [ih (c + 1) i (by omega), show c + 1 + i = c + (i + 1) by omega]
set_option maxRecDepth 100000 in
set_option maxHeartbeats 1000000 in
theorem place_r (w : World) (own : Tags) (t p : Nat) (ids : List Id) (x y : Int) (h : Ready w own t p ids (List.replicate ids.length true)) :
    Calls Tryz.prog 221 #[.pointer (some ⟨p, 0, none⟩), .agg #[.int .i64 x, .int .i64 y]] w fun e w' => e = .returned (plV ids (x, y)) ∧ Below w.heap.size w w' := by
  have h1 := h.keep (w' := w.alloc (.cells #[.int .i64 x, .int .i64 y] 27)) (Same.alloc (own := own) _)
  have hr := Lib.hid (ready_r _ own t p ids _ h1)
  have hk := Lib.hid (getKV_spots (x, y) ids 0)
  obtain ⟨vI, vL, s, g, vV, a, m⟩ := id h1
  have hB := Lib.hid ((Below.refl _ w).alloc (Nat.le_refl _) (.cells #[.int .i64 x, .int .i64 y] 27))
  have hlk := fun (nq : Nat) => MapIs.look (w := (w.alloc (.cells #[.int .i64 x, .int .i64 y] 27)).drewN nq) m.map Tryz.underlying127 (zero3 _) (x, y) true
  have c2 := a.blk.cell 2
  simp at c2
  by_cases hm : (x, y) ∈ ids
  · have hi : ids.idxOf (x, y) < ids.length := List.idxOf_lt_length_iff.2 hm
    have HP := Lib.hid (show plV ids (x, y) = .tuple #[.int .i64 (ids.idxOf (x, y) : Nat), .bool true] from if_pos hm)
    rw [if_pos hm, Nat.zero_add] at hk
    obtain ⟨i, hie⟩ : ∃ i, ids.idxOf (x, y) = i := ⟨_, rfl⟩
    rw [hie] at hk HP hi
    simp only [idv, if_true, hk.out, Option.getD_some, Option.isSome_some] at hlk
    obtain ⟨bL, offL, c, rfl, hbL, _, g1⟩ := a.rL.boolAt (i := i) (b := true) (by rw [List.getElem?_replicate, if_pos hi])
    have c1 := a.blk.cell 1
    have c3 := a.blk.cell 3
    have g3 := m.ahead.cell i
    simp at c1 c3
    rw [List.getElem?_toArray, ahead_all _ _ _ hi, Nat.zero_add] at g3
    have hil : (i : Int) < ((List.replicate ids.length true).length : Int) := by rw [List.length_replicate]; omega
    have hi0 : (0 : Int) ≤ (i : Int) := by omega
    clear h h1 a m hm hie
    go_enter Tryz.func221, Tryz.ntmps221
    go_wp2_with fail
    refine hr.out.mono ?_
    rintro e w1 ⟨rfl, rfl⟩
    go_wp2
    go_quiet (fail)
    go_wp2
    go_ret2
    exact ⟨HP.out.symm ▸ rfl, hB.out.trans ⟨rfl, rfl, rfl, Nat.le_refl _, fun _ _ => rfl⟩⟩
  · have HP := Lib.hid (show plV ids (x, y) = .tuple #[.int .i64 0, .bool false] from if_neg hm)
    rw [if_neg hm] at hk
    simp only [idv, if_true, hk.out, Option.getD_none, Option.isSome_none] at hlk
    clear h h1 a m hm
    go_enter Tryz.func221, Tryz.ntmps221
    go_wp2_with fail
    refine hr.out.mono ?_
    rintro e w1 ⟨rfl, rfl⟩
    go_wp2
    go_quiet (fail)
    go_wp2
    go_ret2
    exact ⟨HP.out.symm ▸ rfl, hB.out.trans ⟨rfl, rfl, rfl, Nat.le_refl _, fun _ _ => rfl⟩⟩
/-- The sheet's four. -/
def ShB (w : World) (S pR pC pS pN : Nat) : Prop := Blk w S 71 #[.pointer (some ⟨pR, 0, none⟩), .pointer (some ⟨pC, 0, none⟩), .pointer (some ⟨pS, 0, none⟩), .pointer (some ⟨pN, 0, none⟩)]
set_option maxRecDepth 100000 in
set_option maxHeartbeats 1000000 in
theorem whole_c (w : World) (S pR pC pS pN : Nat) (h : ShB w S pR pC pS pN) : Calls Tryz.prog 185 #[.pointer (some ⟨S, 0, none⟩)] w fun e w' => e = .returned (.bool true) ∧ w' = w := by
  obtain ⟨⟨c0, c1, c2, c3⟩, -, -⟩ := Blk.four h
  clear h
  go_enter Tryz.func185, Tryz.ntmps185
  go_wp2_with fail
  go_ret
  exact ⟨rfl, rfl⟩
/-- Where a cell stands. -/
def plC (ids jds : List Id) (k : Cel) : Value := if k.1 ∈ ids ∧ k.2 ∈ jds then .tuple #[.int .i64 (ids.idxOf k.1 : Nat), .int .i64 (jds.idxOf k.2 : Nat), .bool true] else .tuple #[.int .i64 0, .int .i64 0, .bool false]
structure AxR (w : World) (own : Tags) (pR pC : Nat) (ids jds : List Id) : Prop where
  r : Ready w own 1 pR ids (List.replicate ids.length true)
  c : Ready w own 2 pC jds (List.replicate jds.length true)
theorem AxR.below {w w' : World} {own : Tags} {pR pC : Nat} {ids jds : List Id} (h : AxR w own pR pC ids jds) (b : Below w.heap.size w w') : AxR w' own pR pC ids jds := ⟨h.r.keep (Same.below b), h.c.keep (Same.below b)⟩
set_option maxRecDepth 100000 in
set_option maxHeartbeats 1000000 in
theorem splace_c (w : World) (own : Tags) (pR pC : Nat) (ids jds : List Id) (x y z u : Int) (h : AxR w own pR pC ids jds) :
    Calls Tryz.prog 255 #[.agg #[.int .i64 x, .int .i64 y, .int .i64 z, .int .i64 u], .func (.func 221) #[.pointer (some ⟨pR, 0, none⟩)] #[], .func (.func 221) #[.pointer (some ⟨pC, 0, none⟩)] #[]] w fun e w' => e = .returned (plC ids jds ((x, y), (z, u))) ∧ Below w.heap.size w w' := by
  have B0 := Lib.hid (Bxs.start w [(29, #[.int .i64 x, .int .i64 y, .int .i64 z, .int .i64 u])])
  simp only [allocAll] at B0
  have H1 := Lib.hid (place_r _ own 1 pR ids x y (h.below B0.out.below).r)
  have H2 := Lib.hid (fun W hW => place_r W own 2 pC jds z u (h.below hW).c)
  clear h
  by_cases hx : (x, y) ∈ ids
  · rw [show plV ids (x, y) = _ from if_pos hx] at H1
    by_cases hz : (z, u) ∈ jds
    · have HP := Lib.hid (show plC ids jds ((x, y), (z, u)) = _ from if_pos ⟨hx, hz⟩)
      rw [show plV jds (z, u) = _ from if_pos hz] at H2
      clear hx hz
      go_enter Tryz.func255, Tryz.ntmps255
      go_wp2_with fail
      refine H1.out.mono ?_
      rintro _ w1 ⟨rfl, b1⟩
      have B1 := Lib.hid (B0.out.next b1)
      obtain ⟨⟨c0, c1, c2, c3⟩, -, -⟩ := (B1.out.box 0 _ _ rfl).four
      simp only [Nat.add_zero] at c0 c1 c2 c3
      clear b1 B0 H1
      go_wp2_with fail
      refine (H2.out _ B1.out.below).mono ?_
      rintro _ w2 ⟨rfl, b2⟩
      have B2 := Lib.hid (B1.out.next b2)
      clear b2 B1 c0 c1 c2 c3
      go_wp2_with fail
      go_ret3
      exact ⟨HP.out.symm ▸ rfl, B2.out.below⟩
    · have HP := Lib.hid (show plC ids jds ((x, y), (z, u)) = _ from if_neg (fun h => hz h.2))
      rw [show plV jds (z, u) = _ from if_neg hz] at H2
      clear hx hz
      go_enter Tryz.func255, Tryz.ntmps255
      go_wp2_with fail
      refine H1.out.mono ?_
      rintro _ w1 ⟨rfl, b1⟩
      have B1 := Lib.hid (B0.out.next b1)
      obtain ⟨⟨c0, c1, c2, c3⟩, -, -⟩ := (B1.out.box 0 _ _ rfl).four
      simp only [Nat.add_zero] at c0 c1 c2 c3
      clear b1 B0 H1
      go_wp2_with fail
      refine (H2.out _ B1.out.below).mono ?_
      rintro _ w2 ⟨rfl, b2⟩
      have B2 := Lib.hid (B1.out.next b2)
      clear b2 B1 c0 c1 c2 c3
      go_wp2_with fail
      go_ret3
      exact ⟨HP.out.symm ▸ rfl, B2.out.below⟩
  · rw [show plV ids (x, y) = _ from if_neg hx] at H1
    have HP := Lib.hid (show plC ids jds ((x, y), (z, u)) = _ from if_neg (fun h => hx h.1))
    clear hx
    go_enter Tryz.func255, Tryz.ntmps255
    go_wp2_with fail
    refine H1.out.mono ?_
    rintro _ w1 ⟨rfl, b1⟩
    have B1 := Lib.hid (B0.out.next b1)
    clear b1 B0 H1
    go_wp2_with fail
    go_ret3
    exact ⟨HP.out.symm ▸ rfl, B1.out.below⟩
end Go.Proofs.YtoicnghjjgkebaaGreatDoor
namespace Go.Proofs.YtoicnghjjgkebaaGreatDoor
open Go.RowKit Go.Shelf
theorem Tryz.infoL : (Tryz.prog.info? 243).map (fun i => (i.zero, i.size, i.bytes)) = some (some (.agg #[.int .i64 0, .int .i64 0, .int .i64 0, .int .i64 0, .int .i64 0, .int .i64 0, .int .i64 0, .int .i64 0, .int .i64 0, .int .i64 0, .string ⟨#[]⟩, .bool false, .int .i64 0, .int .i64 0, .int .i64 0, .int .i64 0, .int .i64 0, .string ⟨#[]⟩, .bool false, .int .i64 0, .string ⟨#[]⟩, .int .i64 0, .int .i64 0, .int .i64 0, .int .i64 0, .bool false, .bool false, .int .i64 0, .int .i64 0, .int .i64 0, .int .i64 0, .bool false, .bool false, .int .i64 0, .slice none 0 0]), 35, 304) := by kernel_rfl
set_option maxRecDepth 100000 in
set_option maxHeartbeats 2000000 in
theorem shplace_c (w : World) (own : Tags) (S pR pC pS pN : Nat) (ids jds : List Id) (x y z u : Int) (hS : ShB w S pR pC pS pN) (h : AxR w own pR pC ids jds) :
    Calls Tryz.prog 187 #[.pointer (some ⟨S, 0, none⟩), .agg #[.int .i64 x, .int .i64 y, .int .i64 z, .int .i64 u]] w fun e w' => e = .returned (plC ids jds ((x, y), (z, u))) ∧ Below w.heap.size w w' := by
  have hb : Below w.heap.size w (w.alloc (.cells #[.int .i64 x, .int .i64 y, .int .i64 z, .int .i64 u] 29)) := (Below.refl _ _).alloc (Nat.le_refl _) _
  have HW := Lib.hid (whole_c _ S pR pC pS pN (hS.kept (hb.block _ hS.lt)))
  have HP := Lib.hid (splace_c (w.alloc (.cells #[.int .i64 x, .int .i64 y, .int .i64 z, .int .i64 u] 29)).drew own pR pC ids jds x y z u (h.below hb.drew))
  have HB := Lib.hid hb.drew
  obtain ⟨⟨c0, c1, c2, c3⟩, -, -⟩ := (show Blk _ S 71 _ from hS.kept (hb.block _ hS.lt)).four
  have x4 := Blk.new w 29 #[.int .i64 x, .int .i64 y, .int .i64 z, .int .i64 u]
  have C0 : AllCells (w.alloc (.cells #[.int .i64 x, .int .i64 y, .int .i64 z, .int .i64 u] 29)).drew [(⟨S, 0, none⟩, .pointer (some ⟨pR, 0, none⟩)), (⟨S, 1, none⟩, .pointer (some ⟨pC, 0, none⟩)), (⟨w.heap.size, 0, none⟩, .int .i64 x), (⟨w.heap.size, 1, none⟩, .int .i64 y), (⟨w.heap.size, 2, none⟩, .int .i64 z), (⟨w.heap.size, 3, none⟩, .int .i64 u)] :=
    ⟨c0, c1, x4.cell 0, x4.cell 1, x4.cell 2, x4.cell 3, trivial⟩
  obtain ⟨p, q, b, HV⟩ : ∃ p q b, plC ids jds ((x, y), (z, u)) = .tuple #[.int .i64 p, .int .i64 q, .bool b] := by unfold plC; split <;> exact ⟨_, _, _, rfl⟩
  have HE := Lib.hid HV
  rw [HV] at HP
  clear HV
  clear hb hS h c0 c1 c2 c3 x4
  go_enter Tryz.func187, Tryz.ntmps187
  go_wp2_with (refine HW.out.mono ?_; rintro _ _ ⟨rfl, rfl⟩)
  refine rfree [0, 1, 2, 3, 4, 6, 7, 8, 9] 9 (by kernel_rfl) (fun _ _ _ _ _ h => h) C0 ?_
  intro hne hu; try simp only [AllCells] at hu
  simp only [pick, pk]
  repeat (go_big_quiet_step (fail))
  refine wpQuiet_nil ?_; clear hne hu
  refine anyN_twoL 5 10 (by kernel_rfl) ?_ ?_ <;> simp only [pk]
  · go_wp2_with fail
    first | refine And.intro (fun _ => C0) ?_ | refine And.intro C0 ?_ | skip
    refine anyN_oneL 10 (by kernel_rfl) ?_; simp only [pk]
    go_wp2_with fail
    first | refine And.intro (fun _ => C0) ?_ | refine And.intro C0 ?_ | skip
    refine anyN_oneL 11 (by kernel_rfl) ?_; simp only [pk]
    go_wp2_with fail
    refine HP.out.mono ?_
    rintro _ w1 ⟨rfl, b1⟩
    have C1 := AllCells.below C0 b1
    go_wp2_with fail
    first | refine And.intro (fun _ => C1) ?_ | refine And.intro C1 ?_ | skip
    refine rmore [12, 13, 14, 15, 16, 17] 0 (by kernel_rfl) (fun _ _ _ _ _ h => h) C1 ?_
    intro hne hu; try simp only [AllCells] at hu
    simp only [pick, pk]
    repeat (go_big_quiet_step (fail))
    refine wpQuiet_nil ?_; clear hne hu
    refine ⟨by kernel_rfl, ?_⟩
    go_wp2_with fail
    go_ret3
    exact ⟨HE.out.symm ▸ rfl, HB.out.trans (b1.mono HB.out.size)⟩
  · go_wp2_with fail
    first | refine And.intro (fun _ => C0) ?_ | refine And.intro C0 ?_ | skip
    refine anyN_oneL 5 (by kernel_rfl) ?_; simp only [pk]
    go_wp2_with fail
    first | refine And.intro (fun _ => C0) ?_ | refine And.intro C0 ?_ | skip
    refine anyN_oneL 11 (by kernel_rfl) ?_; simp only [pk]
    go_wp2_with fail
    refine HP.out.mono ?_
    rintro _ w1 ⟨rfl, b1⟩
    have C1 := AllCells.below C0 b1
    go_wp2_with fail
    first | refine And.intro (fun _ => C1) ?_ | refine And.intro C1 ?_ | skip
    refine rmore [12, 13, 14, 15, 16, 17] 0 (by kernel_rfl) (fun _ _ _ _ _ h => h) C1 ?_
    intro hne hu; try simp only [AllCells] at hu
    simp only [pick, pk]
    repeat (go_big_quiet_step (fail))
    refine wpQuiet_nil ?_; clear hne hu
    refine ⟨by kernel_rfl, ?_⟩
    go_wp2_with fail
    go_ret3
    exact ⟨HE.out.symm ▸ rfl, HB.out.trans (b1.mono HB.out.size)⟩
end Go.Proofs.YtoicnghjjgkebaaGreatDoor
namespace Go.Proofs.YtoicnghjjgkebaaGreatDoor
open Go.RowKit Go.Shelf
attribute [local go_sem] Oper.semAt_some
/-- A cell that has a place, with it. -/
def lvOf (ids jds : List Id) (x : Cel × Val) : Lv := ⟨(ids.idxOf x.1.1 : Nat), (jds.idxOf x.1.2 : Nat), x.1, ctc x.2, ctc_len _, ctc_ones _⟩
theorem build_live (w : World) (p q x1 x2 x3 x4 : Int) (v : Val) : (Instr.build 243 #[(0, .int .i64 p), (1, .int .i64 q), (2, .agg #[.int .i64 x1, .int .i64 x2, .int .i64 x3, .int .i64 x4]), (3, .agg (ctc v).toArray)]).run Tryz.prog w = .ok (.agg (Lv.cs ⟨p, q, ((x1, x2), (x3, x4)), ctc v, ctc_len _, ctc_ones _⟩).toArray) w := by kernel_rfl
theorem bslice_live (w : World) (p q x1 x2 x3 x4 : Int) (v : Val) : (Instr.buildSlice 240 1 #[(0, .agg (Lv.cs ⟨p, q, ((x1, x2), (x3, x4)), ctc v, ctc_len _, ctc_ones _⟩).toArray)]).run Tryz.prog w = .ok (.slice (some ⟨w.heap.size, 0, none⟩) 1 1) (w.alloc (.cells (Lv.cs ⟨p, q, ((x1, x2), (x3, x4)), ctc v, ctc_len _, ctc_ones _⟩).toArray 243)) := by kernel_rfl
theorem wpList_build_live {ops : Array Oper} {rest : List Oper} {o : Oper} {a : Act} {w : World} {Q : Exit → Act → World → Prop} (hg : o.guard = none) (A B C D : Operand) (ho : o.op = .build 243 #[(0, A), (1, B), (2, C), (3, D)]) (p q x1 x2 x3 x4 : Int) (v : Val)
    (hA : a.eval A = .int .i64 p) (hB : a.eval B = .int .i64 q) (hC : a.eval C = .agg #[.int .i64 x1, .int .i64 x2, .int .i64 x3, .int .i64 x4]) (hD : a.eval D = .agg (ctc v).toArray) {y : Lv} (hy : y = ⟨p, q, ((x1, x2), (x3, x4)), ctc v, ctc_len _, ctc_ones _⟩)
    (h : wpList Tryz.prog ops Q rest (a.put o.dst (.agg y.cs.toArray)) w) : wpList Tryz.prog ops Q (o :: rest) a w := by
  subst hy
  refine Great.wpList_runTo hg o.dst rfl _ _ ?_ h
  simp only [execOp, ho, List.map_toArray, List.map_cons, List.map_nil, hA, hB, hC, hD, Sem.run_bind, Sem.run_pure, build_live, Result.andThen_ok]
theorem wpList_bslice_live {ops : Array Oper} {rest : List Oper} {o : Oper} {a : Act} {w : World} {Q : Exit → Act → World → Prop} (hg : o.guard = none) (A : Operand) (ho : o.op = .buildSlice 240 1 #[(0, A)]) (p q x1 x2 x3 x4 : Int) (v : Val) {y : Lv} (hy : y = ⟨p, q, ((x1, x2), (x3, x4)), ctc v, ctc_len _, ctc_ones _⟩)
    (hA : a.eval A = .agg y.cs.toArray)
    (h : wpList Tryz.prog ops Q rest (a.put o.dst (.slice (some ⟨w.heap.size, 0, none⟩) 1 1)) (w.alloc (.cells y.cs.toArray 243))) : wpList Tryz.prog ops Q (o :: rest) a w := by
  subst hy
  refine Great.wpList_runTo hg o.dst rfl _ _ ?_ h
  simp only [execOp, ho, List.map_toArray, List.map_cons, List.map_nil, hA, Sem.run_bind, Sem.run_pure, bslice_live, Result.andThen_ok]
end Go.Proofs.YtoicnghjjgkebaaGreatDoor
