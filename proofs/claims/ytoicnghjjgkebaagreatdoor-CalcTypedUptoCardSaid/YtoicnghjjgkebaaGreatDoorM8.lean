/-
  slices.AppendSeq, Collect, SortedFunc at cells: all that a walk tells, in some order. Condition: the walk keeps its word.
  slices.Collect, SortedFunc over a map's keys: all keys, each once. Conditions: the map lies in memory; at most twelve keys.
  Nodes and values held against the zero ones: counterpaneref06.Same, tree.Same, value.Same, cells.Same: their contracts. No condition.
  Contents that are typed, or empty: counterpaneref18.Right, cells.Right, cells.copied and what they ask: their contracts. Conditions: those said in each statement.
  tree.Same, cells.Same, cells.Right, cells.copied, cells.isCell, counterpaneref18.Is: their contracts. Conditions: those said in each statement.
-/
import Derived.Test.YtoicnghjjgkebaaGreatDoorM12
import Derived.Test.YtoicnghjjgkebaaGreatDoorM4
import Derived.Test.YtoicnghjjgkebaaGreatDoorQ5
set_option linter.unusedSectionVars false
set_option linter.unusedSimpArgs false
set_option linter.unusedVariables false
set_option linter.unnecessarySimpa false
namespace Go.Proofs.YtoicnghjjgkebaaGreatDoor
open Go.RowKit Go.Shelf
attribute [local go_sem] Oper.semAt_some
/-- One more at a list's end; what is new lies above the start. -/
theorem app_pure {α : Type} {f : α → List Value} {e : TypeId} {size b0 : Nat} {w0 w : World} {v : Value} {m : List α} {P : Program} {ops : Array Oper} {rest : List Oper} {o : Oper} {a : Act} {Q : Exit → Act → World → Prop} (hgd : o.guard = none) (s x : Operand) (t : TypeId)
    (ho : o.op = .call { callee := .builtin .append, args := #[s, x], argTypes := #[t, t] }) (i : TypeInfo) (z : Value) (bytes : Nat) (ht : P.underlying t = some (.slice e)) (hi : P.info? e = some i) (hz : i.zero = some z)
    (hsize : i.size = size) (hby : i.bytes = bytes) (hzs : z.cells.size = size) (hsz : 0 < size) (F : Below w0.heap.size w0 w) (h0 : w0.heap.size ≤ b0) (hb0 : b0 ≤ w.heap.size) (R : w.ownsRow b0 e size v m.length (m.flatMap f)) (hs : a.eval s = v)
    (g : Nat) (y : α) (hx : a.eval x = .slice (some ⟨g, 0, none⟩) 1 1) (hB : Blk w g e (f y).toArray) (hf : (f y).length = size) (h1 : ∀ u ∈ f y, u.oneCell' = true) (hm : m.length < 100000000) (hb : bytes ≤ 1000)
    (h : ∀ v' w', Below w0.heap.size w0 w' → w'.ownsRow b0 e size v' (m ++ [y]).length ((m ++ [y]).flatMap f) → w.grownBy w' v.ownBlock → wpList P ops Q rest (a.put o.dst v') w') : wpList P ops Q (o :: rest) a w := by
  refine wpList_append_src w hgd s x t ho b0 e i z size bytes ht hi hz hsize hby hzs hsz v m.length (m.flatMap f) hs R (some ⟨g, 0, none⟩) 1 1 (f y) hx (fun e => by cases e) (by rw [hf]; omega) (fun ad he j u hj => ?_) h1 (by simp only [maxLen]; omega)
    (Nat.le_trans (Nat.mul_le_mul_left _ hb) (by omega)) hb0 (fun v' w' h2 h3 h5 => h v' w' (below_grew F h3 (fun k hk => Nat.le_trans h0 (ownsRow_base R k hk))) (by simpa using h2) h3)
  cases he
  rw [add_at, Nat.zero_add]
  exact (hB.cell j).trans (by simpa using hj)
/-- A box of a slice, and its row, behind an append and the store. -/
theorem boxed_app {W W1 w' : World} {X base k n n' : Nat} {tb e : TypeId} {v v' : Value} {xs ys : List Value} (hX : X < base) (hB : Blk W X tb #[v]) (hR : W.ownsRow base e k v n xs) (b1 : Below W.heap.size W W1) (hg : W1.grownBy w' v.ownBlock) (hR' : w'.ownsRow base e k v' n' ys) :
    Blk w' X tb #[v] ∧ Blk (w'.setCell ⟨X, 0, none⟩ v') X tb #[v'] ∧ (w'.setCell ⟨X, 0, none⟩ v').ownsRow base e k v' n' ys ∧ KeepsOthers W (w'.setCell ⟨X, 0, none⟩ v') ∧
    (∀ G : Obj → Prop, (∀ cs m, ¬ G (.cells cs e m)) → (∀ cs m, ¬ G (.cells cs tb m)) → KG G W (w'.setCell ⟨X, 0, none⟩ v')) ∧ ∀ w : World, Below w.heap.size w W → w.heap.size ≤ X → Below w.heap.size w (w'.setCell ⟨X, 0, none⟩ v') := by
  have hv : ∀ g, v.ownBlock = some g → base ≤ g ∧ ∀ o, W.heap[g]? = some o → ∃ cs m, o = .cells cs e m := fun g hg2 => ⟨ownsRow_base hR g hg2, fun o ho => by
    rcases hR.2 with ⟨rfl, _⟩ | ⟨g', cap, cur, rfl, _, hgb, _⟩
    · cases hg2
    · cases hg2
      rw [hgb] at ho
      cases ho
      exact ⟨_, _, rfl⟩⟩
  have hB1 : Blk w' X tb #[v] := (hB.kept (b1.block X hB.lt)).kept (hg.block X (Nat.lt_of_lt_of_le hB.lt b1.size) (fun e2 => by have := (hv X e2.symm).1; omega))
  refine ⟨hB1, hB1.store 0 v', ownsRow_kept hR' (fun g hg2 _ => Below.heap_setCell _ _ _ _ (fun e2 => by have := ownsRow_base hR' g hg2; have e3 : g = X := e2; omega)), ?_, fun G h1 h2 => ?_, fun w hw hx => ?_⟩
  · refine (KeepsOthers.trans ⟨b1.size, fun j o hj _ => (b1.block j (Array.getElem?_eq_some_iff.1 hj).1).trans hj⟩ (KeepsOthers.of_grownBy hg (fun j o hj ho => ?_))).trans (KeepsOthers.setCell _ _ _)
    rcases Nat.lt_or_ge j W.heap.size with hl | hl
    · rw [b1.block j hl] at ho
      obtain ⟨cs, m, rfl⟩ := (hv j hj).2 o ho
      rfl
    · rcases hR.2 with ⟨rfl, _⟩ | ⟨g', cap, cur, rfl, _, hgb, _⟩
      · cases hj
      · cases hj
        exact absurd (Array.getElem?_eq_some_iff.1 hgb).1 (Nat.not_lt.2 hl)
  · refine ((KG.of b1).grown hg (fun g hg2 o ho => ?_)).set (fun o ho => ?_) v'
    · obtain ⟨cs, m, rfl⟩ := (hv g hg2).2 o ho
      exact h1 _ _
    · have := hB
      unfold Blk at this
      rw [this] at ho
      cases ho
      exact h2 _ _
  · exact (below_grew (hw.trans (b1.mono hw.size)) hg (fun g hg2 => Nat.le_trans hx (Nat.le_of_lt (Nat.lt_of_lt_of_le hX (hv g hg2).1)))).setCell hx v'
/-- What is gathered lies in a row; its variable's box stands at the start. -/
structure AS (w : World) (pre : List Cel) (W : World) : Prop where
  ex : ∃ v, Blk W w.heap.size 62 #[v] ∧ W.ownsRow (w.heap.size + 1) 29 4 v pre.length (pre.flatMap Cel.cs)
  b : Below w.heap.size w W
theorem AS.stab (w : World) : Stab CG1 (w.heap.size + 1) (AS w) := fun s A B h k => by
  obtain ⟨v, h1, h2⟩ := h.ex
  refine ⟨⟨v, k.kg.keep _ _ h1 trivial, ⟨h2.1, ?_⟩⟩, k.below h.b (Nat.le_succ _)⟩
  rcases h2.2 with h3 | ⟨g, cap, cur, hv, hb, hg, hr⟩
  · exact .inl h3
  · exact .inr ⟨g, cap, cur, hv, hb, k.kg.keep _ _ hg trivial, hr⟩
theorem Tryz.infoC : (Tryz.prog.info? 29).map (fun i => (i.zero, i.size, i.bytes)) = some (some (.agg #[.int .i64 0, .int .i64 0, .int .i64 0, .int .i64 0]), 4, 32) := by kernel_rfl
def SeqK (Bn : Nat) (S Sp : List Cel → Prop) (N : Nat) (w : World) : Prop := ∀ W, Below w.heap.size w W → SeqQ Fence.wide 2 Tryz.prog 304 #[.pointer (some ⟨Bn, 0, none⟩)] (fun c : Cel => #[celv c]) (KG KeyG) S Sp N W
def AppP (S : List Cel → Prop) (w : World) (e : Ending) (w' : World) : Prop := ∃ v xs, e = .returned v ∧ S xs ∧ w'.ownsRow (w.heap.size + 1) 29 4 v xs.length (xs.flatMap Cel.cs) ∧ Below w.heap.size w w'
set_option maxRecDepth 100000 in
set_option maxHeartbeats 4000000 in
theorem appseq_c (Bn : Nat) (S Sp : List Cel → Prop) (N : Nat) (hN : N ≤ 100000) (w : World) (hs : SeqK Bn S Sp N w) :
    Calls Tryz.prog 329 #[.slice none 0 0, .func (.func 304) #[] #[.pointer (some ⟨Bn, 0, none⟩)]] w (AppP S w) := by
  have HS := Lib.hid hs
  clear hs
  refine (callsIn_wide (n := 3)).1 (callsIn_of_wp_marks Tryz.func329 rfl trivial ?_ rfl)
  simp only [Tryz.ntmps329, List.size_toArray, List.length_cons, List.length_nil, Nat.reduceAdd, Nat.reduceSub, Array.replicate_succ, Array.replicate_zero, List.push_toArray, List.append_toArray, List.nil_append, List.cons_append]
  refine wpIn_wide.2 ?_
  have hb0 : Below w.heap.size w (w.alloc (.cells #[.slice none 0 0] 62)) := (Below.refl _ _).alloc (Nat.le_refl _) _
  have I0 : Hid (AS w [] (w.alloc (.cells #[.slice none 0 0] 62))) := Lib.hid ⟨⟨_, Blk.new w _ _, World.ownsRow_nil _ _ _ _⟩, hb0⟩
  have HSQ := HS.out _ hb0
  have hsz : Hid ((w.alloc (.cells #[.slice none 0 0] 62)).heap.size = w.heap.size + 1) := Lib.hid (by simp)
  go_wp2_with fail
  clear hb0
  generalize w.alloc (.cells #[.slice none 0 0] 62) = W0 at *
  refine (wpIn_wide (n := 3)).1 ?_
  refine range_own2 rfl (by omega) (gf := 304) (lb := #[.pointer (some ⟨Bn, 0, none⟩)]) rfl trivial (enters_of Tryz.func304 (by kernel_rfl) rfl) HSQ KG.trans (fun W l L o' _ h1 => KG.put (fun _ h => h) W l L o' h1) (fun _ => rfl)
    (AS w) (fun _ _ _ => False) (by rw [hsz.out]; exact AS.stab w) (fun _ _ _ _ h _ => h.elim) I0.out
    (fun x a' W => ∃ Bx, w.heap.size + 1 ≤ Bx ∧ Blk W Bx 29 x.cs.toArray ∧ a' = { tmps := #[.slice none 0 0, .func (.func 304) #[] #[.pointer (some ⟨Bn, 0, none⟩)], .pointer (some ⟨w.heap.size, 0, none⟩), undef, .slice none 0 0, .pointer (some ⟨Bx, 0, none⟩), .func (.func 304) #[] #[.pointer (some ⟨Bn, 0, none⟩)], celv x, undef, undef, undef, undef, undef], defers := [] })
    (fun x a' W l L o' hl ⟨Bx, h1, h2, h3⟩ => ⟨Bx, h1, h2.kept (World.putObj_heap_other (fun e => by subst e; rw [h2] at hl; cases hl)), h3⟩) ?assign ?body ?done ?stop
  case assign =>
    rintro l pre ⟨⟨x1, x2⟩, x3, x4⟩ W K ci hK
    have HKK := Lib.hid hK
    clear hK
    simp only [celv]
    have bl : Below W.heap.size W (W.alloc (.cells #[.int .i64 x1, .int .i64 x2, .int .i64 x3, .int .i64 x4] 29)) := (Below.refl _ _).alloc (Nat.le_refl _) _
    have HI := Lib.hid (AS.stab w _ _ _ ci (.of bl))
    have HL := Lib.hid (show w.heap.size + 1 ≤ W.heap.size by obtain ⟨v, h, -⟩ := ci.ex; exact h.lt)
    clear ci
    gi_wp2
    exact HKK.out _ _ ((KeepsOthers.alloc _ _).from _) (.of bl) HI.out ⟨W.heap.size, HL.out, Blk.new W _ _, rfl⟩
  case body =>
    rintro l pre ⟨⟨x1, x2⟩, x3, x4⟩ a' W hl ci ⟨Bx, hbx, hX, rfl⟩ hlt
    obtain ⟨v, hB, hR⟩ := ci.ex
    have c0 := hB.cell 0
    have e0 := hX.cell 0
    have e1 := hX.cell 1
    have e2 := hX.cell 2
    have e3 := hX.cell 3
    simp only [Cel.cs, List.getElem?_toArray, List.getElem?_cons_zero, List.getElem?_cons_succ] at c0 e0 e1 e2 e3
    have bl : Below W.heap.size W (W.alloc (.cells #[.int .i64 x1, .int .i64 x2, .int .i64 x3, .int .i64 x4] 29)) := (Below.refl _ _).alloc (Nat.le_refl _) _
    have BL := Lib.hid bl
    have HB1 := Lib.hid (ci.b.trans (bl.mono ci.b.size))
    have HR1 := Lib.hid (ownsRow_kept hR (fun g _ hg => bl.block g hg))
    have HX := Lib.hid (And.intro hB hR)
    have HCI := Lib.hid ci
    have HLE := Lib.hid (show w.heap.size + 1 ≤ (W.alloc (.cells #[.int .i64 x1, .int .i64 x2, .int .i64 x3, .int .i64 x4] 29)).heap.size from by have := hB.lt; simp; omega)
    have HLT := Lib.hid hlt
    obtain ⟨i0, hi, hz0, hz1, hz2⟩ := info_parts Tryz.infoC
    clear hB hR ci hX bl hl hlt
    gi_wp2_with (gi_at_builtin; refine list_round (by rintro ⟨_, _, h⟩; exact h) _ _ _ (by kernel_rfl) ?_; refine app_pure (w0 := w) (f := Cel.cs) rfl _ _ _ rfl i0 _ 32 Tryz.underlying62 hi hz0 hz1 hz2 rfl (by omega) HB1.out (Nat.le_succ _) HLE.out HR1.out rfl W.heap.size ((x1, x2), (x3, x4)) rfl (Blk.new W _ _) rfl (Cel.one _) (by have := HLT.out; omega) (by omega) (fun v' w' b' r' g' => ?_); obtain ⟨A', c', rfl, -⟩ := ownsRow_shape r'; obtain ⟨q1, q2, q3, q4, q5, q6⟩ := boxed_app (Nat.lt_succ_self _) HX.out.1 HX.out.2 BL.out g' r'; rw [List.length_append, List.length_singleton] at q2 q3 q4 q5 q6; have d0 := q1.cell 0; have d1 := q1.frozen 0; have HQ9 := Lib.hid (And.intro q2 (And.intro q3 (And.intro q4 (And.intro q5 q6)))); clear q1 q2 q3 q4 q5 q6 b' r' g' c0 e0 e1 e2 e3)
    go_wp2_with fail
    obtain ⟨q2, q3, q4, q5, q6⟩ := HQ9.out
    exact ⟨q4.from _, q5 KeyG (fun _ _ h => by rcases h with h | h | h <;> cases h) (fun _ _ h => by rcases h with h | h | h <;> cases h), ⟨_, q2, by rw [List.length_append, List.length_singleton]; exact q3⟩, q6 w HCI.out.b (Nat.le_refl _)⟩
  case done =>
    rintro DD xs W hD hS ci hK
    obtain ⟨v, hB, hR⟩ := ci.ex
    have c0 := hB.cell 0
    simp only [List.getElem?_toArray, List.getElem?_cons_zero] at c0
    have HX := Lib.hid (And.intro hS (And.intro hR (And.intro ci.b hK)))
    have HD := Lib.hid (show w.heap.size + 1 ≤ DD by have := hsz.out; omega)
    clear hS hR ci hK hB
    dsimp only
    go_wp2_with fail
    refine m_end rfl rfl rfl rfl HX.out.2.2.2 ⟨v, xs, rfl, HX.out.1, ownsRow_kept HX.out.2.1 (fun g hg _ => World.putObj_heap_other (fun e => ?_)), HX.out.2.2.1.trans (belowPut _ _ (by have := HD.out; omega))⟩
    have h1 := HX.out.2.1
    rcases h1.2 with ⟨rfl, _⟩ | ⟨g', cap, cur, rfl, _, hgb, _⟩
    · cases hg
    · cases hg
      have e2 : g' = DD := e
      rw [e2, HX.out.2.2.2] at hgb
      cases hgb
  case stop =>
    rintro DD c pre W hD hS ci hK
    exact ci.elim
end Go.Proofs.YtoicnghjjgkebaaGreatDoor
namespace Go.Proofs.YtoicnghjjgkebaaGreatDoor
open Go.RowKit Go.Shelf
attribute [local go_sem] Oper.semAt_some
set_option maxRecDepth 100000 in
set_option maxHeartbeats 2000000 in
theorem keys_none (n : Nat) (hn : 1 ≤ n) (Bn : Nat) (w : World) (hB : Blk w Bn 114 #[.map none]) :
    SeqQ Fence.wide n Tryz.prog 304 #[.pointer (some ⟨Bn, 0, none⟩)] (fun c : Cel => #[celv c]) (KG KeyG) (fun xs => xs = []) (fun _ => True) 0 w := by
  intro l J Jx W hW hJ hJx hY h0
  have c0 := (hB.kept (hW.block _ hB.lt)).cell 0
  have HJ := Lib.hid hJ
  have H0 := Lib.hid h0
  clear hJ hY h0 hB hJx hW
  refine callsIn_of_wp Tryz.func304 rfl trivial ?_ rfl
  simp only [Tryz.ntmps304, List.size_toArray, List.length_cons, List.length_nil, Nat.reduceAdd, Nat.reduceSub, Array.replicate_succ, Array.replicate_zero, List.push_toArray, List.append_toArray, List.nil_append, List.cons_append]
  have hrun := run_range_nilMap (P := Tryz.prog) W 114 29 42 Tryz.underlying114
  have hnx : ∀ ty, (Instr.next (.pointer (some ⟨W.heap.size, 0, none⟩)) false ty).run Tryz.prog (W.alloc (.mapIter none 0 #[] 0)) = _ := fun ty => run_next_nilMap W ty 0 0 #[]
  have HJ1 := Lib.hid (HJ.out [] W (W.alloc (.mapIter none 0 #[] 0)) H0.out (.of ((Below.refl _ _).alloc (Nat.le_refl _) _)))
  gi_wp2
  gi_loopw [6] (fun _ wr => Hid (J [] wr) ∧ Hid (wr = W.alloc (.mapIter none 0 #[] 0))) (fun _ _ => 0)
  case atStart => exact ⟨HJ1, Lib.hid rfl⟩
  case round =>
    obtain ⟨hj, hw⟩ := hrel
    rw [hw.out] at hj ⊢
    clear hw
    gi_wp2
    go_end0
    exact ⟨⟨_, rfl⟩, .inl ⟨[], rfl, hj.out⟩⟩
set_option maxRecDepth 100000 in
set_option maxHeartbeats 4000000 in
theorem collect_c (Bn : Nat) (S Sp : List Cel → Prop) (N : Nat) (hN : N ≤ 100000) (w : World) (hs : SeqK Bn S Sp N w) :
    Calls Tryz.prog 302 #[.func (.func 304) #[] #[.pointer (some ⟨Bn, 0, none⟩)]] w (AppP S w) := by
  have HA := Lib.hid (appseq_c Bn S Sp N hN w hs)
  clear hs
  go_enter Tryz.func302, Tryz.ntmps302
  go_wp2_with fail
  refine HA.out.mono ?_
  rintro _ w1 ⟨v, xs, rfl, h1, h2, h3⟩
  have H := Lib.hid (And.intro h1 (And.intro h2 h3))
  clear h1 h2 h3
  go_wp2_with fail
  go_ret
  exact ⟨v, xs, rfl, H.out⟩
/-- A row of cells, some order of what S tells. -/
def KeyP (S : List Cel → Prop) (w : World) (e : Ending) (w' : World) : Prop :=
  ∃ A c xs, e = .returned (.slice A xs.length c) ∧ (∃ ys, S ys ∧ xs.Perm ys) ∧ ((A = none ∧ xs = []) ∨ ∃ g, A = some ⟨g, 0, none⟩ ∧ w.heap.size ≤ g ∧ Seg w' g (xs.flatMap Cel.cs) ∧ ∃ cs, w'.heap[g]? = some (.cells cs 29 (0, 0))) ∧ Below w.heap.size w w'
set_option maxRecDepth 100000 in
set_option maxHeartbeats 4000000 in
theorem sortedf_c (Bn : Nat) (S Sp : List Cel → Prop) (N : Nat) (hN : N ≤ 100000) (hS : ∀ xs, S xs → xs.length ≤ 12) (w : World) (hs : SeqK Bn S Sp N w) :
    Calls Tryz.prog 252 #[.func (.func 304) #[] #[.pointer (some ⟨Bn, 0, none⟩)], .func (.func 254) #[] #[]] w (KeyP S w) := by
  have HA := Lib.hid (collect_c Bn S Sp N hN w hs)
  have HS := Lib.hid hS
  clear hs hS
  go_enter Tryz.func252, Tryz.ntmps252
  go_wp2_with fail
  refine HA.out.mono ?_
  rintro _ w1 ⟨v, xs, rfl, h1, h2, h3⟩
  have hl := HS.out xs h1
  rcases h2.2 with ⟨rfl, h0⟩ | ⟨g, cap, cur, rfl, hb, hg, -⟩
  · have hx : xs = [] := List.length_eq_zero_iff.1 h0
    have HC := Lib.hid (sortcell_c xs none w1 0 0 h0 (by omega) (.inl ⟨rfl, rfl, rfl⟩))
    have H := Lib.hid (And.intro h1 (And.intro hx h3))
    clear h1 h2 h3 hl h0 hx HA
    go_wp2_with fail
    refine HC.out.mono ?_
    rintro _ w2 ⟨rfl, hr⟩
    have HB2 := Lib.hid (show Below w1.heap.size w1 w2 by
      rcases hr with ⟨-, h⟩ | ⟨g, h, -⟩
      · exact h
      · cases h)
    clear hr HC
    go_wp2_with fail
    go_ret
    exact ⟨none, 0, [], rfl, ⟨xs, H.out.1, by rw [H.out.2.1]⟩, .inl ⟨rfl, rfl⟩, H.out.2.2.trans (HB2.out.mono H.out.2.2.size)⟩
  · have hS := seg_row h2
    have HC := Lib.hid (sortcell_c xs (some ⟨g, 0, none⟩) w1 xs.length cap rfl hl (.inr ⟨g, rfl, hS⟩))
    have H := Lib.hid (And.intro h1 (And.intro h3 (And.intro hb hg)))
    have hn0 : (xs.length : Int) = ((xs.length : Nat) : Int) := rfl
    obtain ⟨n, hn⟩ : ∃ n, xs.length = n := ⟨_, rfl⟩
    rw [hn] at HC ⊢
    have HN := Lib.hid hn
    clear h1 h2 h3 hl hS hb hg HA hn hn0
    go_wp2_with fail
    refine HC.out.mono ?_
    rintro _ w2 ⟨rfl, hr⟩
    have HR := Lib.hid (show SrtK Cel.cs g xs w1 w2 by
      rcases hr with ⟨h, -⟩ | ⟨g', h, hx⟩
      · cases h
      · cases h; exact hx)
    clear hr HC
    go_wp2_with fail
    go_ret
    obtain ⟨us, p1, s1, c1, t1⟩ := HR.out
    obtain ⟨k1, k2, k3, k4⟩ := H.out
    refine ⟨some ⟨g, 0, none⟩, cap, us, by rw [p1.length_eq, HN.out]; rfl, ⟨xs, k1, p1⟩, .inr ⟨g, rfl, by omega, s1, t1 _ _ _ _ k4⟩, k2.trans (c1.below k2.size (fun k hk e => by omega))⟩
end Go.Proofs.YtoicnghjjgkebaaGreatDoor
namespace Go.Proofs.YtoicnghjjgkebaaGreatDoor
open Go.RowKit
def ceq (x y : Cor) : Bool := ideq x.row.1 x.row.2 y.row.1 y.row.2 && ideq x.col.1 x.col.2 y.col.1 y.col.2 && x.fr == y.fr && x.fc == y.fc
theorem Tryz.stood35 : Tryz.prog.stoodInHeld 35 = false := by kernel_rfl
theorem Tryz.fields35 : Tryz.prog.fieldsOf 35 = #[{ name := "Row", type := 27, offset := 0, embedded := false, tag := "", pkgPath := "", byteOffset := 0 }, { name := "Col", type := 27, offset := 2, embedded := false, tag := "", pkgPath := "", byteOffset := 16 }, { name := "FixRow", type := 4, offset := 4, embedded := false, tag := "", pkgPath := "", byteOffset := 32 }, { name := "FixCol", type := 4, offset := 5, embedded := false, tag := "", pkgPath := "", byteOffset := 33 }] := by kernel_rfl
theorem Tryz.stood37 : Tryz.prog.stoodInHeld 37 = false := by kernel_rfl
theorem Tryz.guard37 : Tryz.prog.eqGuardType Tryz.prog.depth 37 = false := by kernel_rfl
theorem Tryz.fields37 : Tryz.prog.fieldsOf 37 = #[{ name := "A", type := 35, offset := 0, embedded := false, tag := "", pkgPath := "", byteOffset := 0 }, { name := "B", type := 35, offset := 6, embedded := false, tag := "", pkgPath := "", byteOffset := 40 }] := by kernel_rfl
set_option maxRecDepth 100000 in
set_option maxHeartbeats 8000000 in
theorem Tryz.equal35 (a1 a2 a3 a4 b1 b2 b3 b4 : Int) (a5 a6 b5 b6 : Bool) (w : World) (n : Nat) : (Op.equalIn (n + 3) 35 (.agg #[.int .i64 a1, .int .i64 a2, .int .i64 a3, .int .i64 a4, .bool a5, .bool a6]) (.agg #[.int .i64 b1, .int .i64 b2, .int .i64 b3, .int .i64 b4, .bool b5, .bool b6])).run Tryz.prog w = .ok (ceq ⟨(a1, a2), (a3, a4), a5, a6⟩ ⟨(b1, b2), (b3, b4), b5, b6⟩) w := by
  rw [run_equalIn_struct w (n+2) 35 _ _ (by rw [Tryz.fields35]; exact Tryz.underlying35) Tryz.stood35, Tryz.fields35]
  unfold ceq
  cases h1 : ideq a1 a2 b1 b2 <;> cases h2 : ideq a3 a4 b3 b4 <;> cases h3 : (a5 == b5) <;> cases h4 : (a6 == b6) <;>
    simp [Op.eqFields, part, isAgg, go_sem, Tryz.underlying3, Tryz.underlying4, Tryz.equal27, h1, h2, h3, h4]
set_option maxRecDepth 100000 in
set_option maxHeartbeats 8000000 in
@[go_sem ↓] theorem Tryz.eql37 (a1 a2 a3 a4 b1 b2 b3 b4 c1 c2 c3 c4 d1 d2 d3 d4 : Int) (a5 a6 b5 b6 c5 c6 d5 d6 : Bool) (w : World) : (binOp .eql 37 (.agg #[.int .i64 a1, .int .i64 a2, .int .i64 a3, .int .i64 a4, .bool a5, .bool a6, .int .i64 c1, .int .i64 c2, .int .i64 c3, .int .i64 c4, .bool c5, .bool c6]) (.agg #[.int .i64 b1, .int .i64 b2, .int .i64 b3, .int .i64 b4, .bool b5, .bool b6, .int .i64 d1, .int .i64 d2, .int .i64 d3, .int .i64 d4, .bool d5, .bool d6])).run Tryz.prog w = .ok (.bool (ceq ⟨(a1, a2), (a3, a4), a5, a6⟩ ⟨(b1, b2), (b3, b4), b5, b6⟩ && ceq ⟨(c1, c2), (c3, c4), c5, c6⟩ ⟨(d1, d2), (d3, d4), d5, d6⟩)) w := by
  have key : ∀ n, (Op.equalIn (n + 4) 37 (.agg #[.int .i64 a1, .int .i64 a2, .int .i64 a3, .int .i64 a4, .bool a5, .bool a6, .int .i64 c1, .int .i64 c2, .int .i64 c3, .int .i64 c4, .bool c5, .bool c6]) (.agg #[.int .i64 b1, .int .i64 b2, .int .i64 b3, .int .i64 b4, .bool b5, .bool b6, .int .i64 d1, .int .i64 d2, .int .i64 d3, .int .i64 d4, .bool d5, .bool d6])).run Tryz.prog w = .ok (ceq ⟨(a1, a2), (a3, a4), a5, a6⟩ ⟨(b1, b2), (b3, b4), b5, b6⟩ && ceq ⟨(c1, c2), (c3, c4), c5, c6⟩ ⟨(d1, d2), (d3, d4), d5, d6⟩) w := fun n => by
    rw [run_equalIn_struct w (n+3) 37 _ _ (by rw [Tryz.fields37]; exact Tryz.underlying37) Tryz.stood37, Tryz.fields37]
    cases h1 : ceq ⟨(a1, a2), (a3, a4), a5, a6⟩ ⟨(b1, b2), (b3, b4), b5, b6⟩ <;> cases h2 : ceq ⟨(c1, c2), (c3, c4), c5, c6⟩ ⟨(d1, d2), (d3, d4), d5, d6⟩ <;>
      simp [Op.eqFields, part, isAgg, go_sem, Tryz.equal35, h1, h2]
  rw [run_eql_struct, key]; rfl
@[go_sem ↓] theorem Tryz.eqg37 (op : BinOp) (x y : Operand) (xs ys : Array Value) (w : World) : (eqGuard op 37 x y (.agg xs) (.agg ys)).run Tryz.prog w = .ok () w := run_eqGuard_agg w op 37 x y xs ys Tryz.guard37
/-- Are two nodes' own fields the same, and have they as many nodes below? -/
def nfEq (f g : Nf) (n m : Nat) : Bool := f.k == g.k && veq f.v g.v && (f.s.toList == g.s.toList) && (ceq f.a g.a && ceq f.b g.b) && f.r == g.r && (n : Int) == (m : Int)
set_option maxRecDepth 100000 in
set_option maxHeartbeats 8000000 in
theorem alike_c (f g : Nf) (A B : Option Addr) (n m c d b1 o1 b2 o2 : Nat) (w : World) (h1 : w.rangeAt b1 o1 (f.cs (.slice A n c))) (h2 : w.rangeAt b2 o2 (g.cs (.slice B m d))) :
    Calls Tryz.prog 111 #[.pointer (some ⟨b1, o1, none⟩), .pointer (some ⟨b2, o2, none⟩)] w fun e w' => e = .returned (.bool (nfEq f g n m)) ∧ Below w.heap.size w w' := by
  obtain ⟨b, hb⟩ : ∃ b, b = nfEq f g n m := ⟨_, rfl⟩
  rw [← hb]
  unfold nfEq at hb
  obtain ⟨k, ⟨v0, v1, v2, v3, v4, v5⟩, s, ⟨⟨p0, p1⟩, ⟨p2, p3⟩, p4, p5⟩, ⟨⟨q0, q1⟩, ⟨q2, q3⟩, q4, q5⟩, r⟩ := f
  obtain ⟨k', ⟨u0, u1, u2, u3, u4, u5⟩, s', ⟨⟨x0, x1⟩, ⟨x2, x3⟩, x4, x5⟩, ⟨⟨y0, y1⟩, ⟨y2, y3⟩, y4, y5⟩, r'⟩ := g
  dsimp only at hb
  have HV := Lib.hid hb
  clear hb
  have c0 := h1 0 _ rfl; have c1 := h1 1 _ rfl; have c2 := h1 2 _ rfl; have c3 := h1 3 _ rfl; have c4 := h1 4 _ rfl; have c5 := h1 5 _ rfl; have c6 := h1 6 _ rfl; have c7 := h1 7 _ rfl; have c8 := h1 8 _ rfl; have c9 := h1 9 _ rfl; have c10 := h1 10 _ rfl
  have c11 := h1 11 _ rfl; have c12 := h1 12 _ rfl; have c13 := h1 13 _ rfl; have c14 := h1 14 _ rfl; have c15 := h1 15 _ rfl; have c16 := h1 16 _ rfl; have c17 := h1 17 _ rfl; have c18 := h1 18 _ rfl; have c19 := h1 19 _ rfl; have c20 := h1 20 _ rfl; have c21 := h1 21 _ rfl
  have d0 := h2 0 _ rfl; have d1 := h2 1 _ rfl; have d2 := h2 2 _ rfl; have d3 := h2 3 _ rfl; have d4 := h2 4 _ rfl; have d5 := h2 5 _ rfl; have d6 := h2 6 _ rfl; have d7 := h2 7 _ rfl; have d8 := h2 8 _ rfl; have d9 := h2 9 _ rfl; have d10 := h2 10 _ rfl
  have d11 := h2 11 _ rfl; have d12 := h2 12 _ rfl; have d13 := h2 13 _ rfl; have d14 := h2 14 _ rfl; have d15 := h2 15 _ rfl; have d16 := h2 16 _ rfl; have d17 := h2 17 _ rfl; have d18 := h2 18 _ rfl; have d19 := h2 19 _ rfl; have d20 := h2 20 _ rfl; have d21 := h2 21 _ rfl
  clear h1 h2
  simp only [Nat.add_zero] at c0 d0
  cases e1 : (k == k')
  rotate_left
  cases e2 : veq ⟨v0, v1, v2, v3, v4, v5⟩ ⟨u0, u1, u2, u3, u4, u5⟩
  rotate_left
  cases e3 : (s.toList == s'.toList)
  rotate_left
  cases e4 : (ceq ⟨(p0, p1), (p2, p3), p4, p5⟩ ⟨(x0, x1), (x2, x3), x4, x5⟩ && ceq ⟨(q0, q1), (q2, q3), q4, q5⟩ ⟨(y0, y1), (y2, y3), y4, y5⟩)
  rotate_left
  cases e5 : (r == r')
  rotate_left
  all_goals
    go_enter Tryz.func111, Tryz.ntmps111
    go_upto_region 1 with fail
    simp only [List.append]
    go_big_quiet (fail)
    go_wp2_with fail
    go_ret
    exact ⟨by rw [HV.out]; simp only [*, Bool.true_and, Bool.and_true, Bool.and_false, Bool.false_and]; rfl, ⟨rfl, rfl, rfl, Nat.le_refl _, fun _ _ => rfl⟩⟩
set_option maxRecDepth 100000 in
set_option maxHeartbeats 8000000 in
@[go_sem ↓] theorem Tryz.neq37 (a1 a2 a3 a4 b1 b2 b3 b4 c1 c2 c3 c4 d1 d2 d3 d4 : Int) (a5 a6 b5 b6 c5 c6 d5 d6 : Bool) (w : World) : (binOp .neq 37 (.agg #[.int .i64 a1, .int .i64 a2, .int .i64 a3, .int .i64 a4, .bool a5, .bool a6, .int .i64 c1, .int .i64 c2, .int .i64 c3, .int .i64 c4, .bool c5, .bool c6]) (.agg #[.int .i64 b1, .int .i64 b2, .int .i64 b3, .int .i64 b4, .bool b5, .bool b6, .int .i64 d1, .int .i64 d2, .int .i64 d3, .int .i64 d4, .bool d5, .bool d6])).run Tryz.prog w = .ok (.bool (!(ceq ⟨(a1, a2), (a3, a4), a5, a6⟩ ⟨(b1, b2), (b3, b4), b5, b6⟩ && ceq ⟨(c1, c2), (c3, c4), c5, c6⟩ ⟨(d1, d2), (d3, d4), d5, d6⟩))) w := by
  have key : ∀ n, (Op.equalIn (n + 4) 37 (.agg #[.int .i64 a1, .int .i64 a2, .int .i64 a3, .int .i64 a4, .bool a5, .bool a6, .int .i64 c1, .int .i64 c2, .int .i64 c3, .int .i64 c4, .bool c5, .bool c6]) (.agg #[.int .i64 b1, .int .i64 b2, .int .i64 b3, .int .i64 b4, .bool b5, .bool b6, .int .i64 d1, .int .i64 d2, .int .i64 d3, .int .i64 d4, .bool d5, .bool d6])).run Tryz.prog w = .ok (ceq ⟨(a1, a2), (a3, a4), a5, a6⟩ ⟨(b1, b2), (b3, b4), b5, b6⟩ && ceq ⟨(c1, c2), (c3, c4), c5, c6⟩ ⟨(d1, d2), (d3, d4), d5, d6⟩) w := fun n => by
    rw [run_equalIn_struct w (n+3) 37 _ _ (by rw [Tryz.fields37]; exact Tryz.underlying37) Tryz.stood37, Tryz.fields37]
    cases h1 : ceq ⟨(a1, a2), (a3, a4), a5, a6⟩ ⟨(b1, b2), (b3, b4), b5, b6⟩ <;> cases h2 : ceq ⟨(c1, c2), (c3, c4), c5, c6⟩ ⟨(d1, d2), (d3, d4), d5, d6⟩ <;>
      simp [Op.eqFields, part, isAgg, go_sem, Tryz.equal35, h1, h2]
  rw [run_neq_struct, key]; rfl
def nodeZ : List Value := Nf.zero.cs (.slice none 0 0)
set_option maxRecDepth 100000 in
set_option maxHeartbeats 8000000 in
/-- counterpaneref06.Same of a node and the zero one. -/
theorem same0_c (f : Nf) (A : Option Addr) (n c : Nat) (hm : n ≤ maxLen) (w : World) :
    Calls Tryz.prog 58 #[.agg (f.cs (.slice A n c)).toArray, .agg nodeZ.toArray] w fun e w' => e = .returned (.bool (nfEq f .zero n 0)) ∧ Below w.heap.size w w' := by
  simp only [maxLen] at hm
  obtain ⟨b, hb⟩ : ∃ b, b = nfEq f .zero n 0 := ⟨_, rfl⟩
  rw [← hb]
  unfold nfEq at hb
  obtain ⟨k, ⟨v0, v1, v2, v3, v4, v5⟩, s, ⟨⟨p0, p1⟩, ⟨p2, p3⟩, p4, p5⟩, ⟨⟨q0, q1⟩, ⟨q2, q3⟩, q4, q5⟩, r⟩ := f
  simp only [Nf.zero, Cor.zero, zeroV] at hb
  rw [show (k == 0) = decide (k = 0) by rw [Bool.eq_iff_iff]; simp, show (s.toList == (⟨#[]⟩ : ByteArray).toList) = decide (s.toList = []) by rw [Bool.eq_iff_iff]; simp, show (r == 0) = decide (r = 0) by rw [Bool.eq_iff_iff]; simp, show ((n : Int) == ((0 : Nat) : Int)) = decide ((n : Int) = 0) by rw [Bool.eq_iff_iff]; simp] at hb
  have HV := Lib.hid hb
  clear hb
  simp only [Nf.cs, nodeZ, Nf.zero, Cor.zero, zeroV]
  have B0 := Lib.hid (Bxs.start w [(40, #[.int .i64 k, .int .i64 v0, .int .i64 v1, .int .i64 v2, .string v3, .bool v4, .int .i64 v5, .string s, .int .i64 p0, .int .i64 p1, .int .i64 p2, .int .i64 p3, .bool p4, .bool p5, .int .i64 q0, .int .i64 q1, .int .i64 q2, .int .i64 q3, .bool q4, .bool q5, .int .i64 r, .slice A n c]), (40, #[.int .i64 0, .int .i64 0, .int .i64 0, .int .i64 0, .string ⟨#[]⟩, .bool false, .int .i64 0, .string ⟨#[]⟩, .int .i64 0, .int .i64 0, .int .i64 0, .int .i64 0, .bool false, .bool false, .int .i64 0, .int .i64 0, .int .i64 0, .int .i64 0, .bool false, .bool false, .int .i64 0, .slice none 0 0])])
  simp only [allocAll] at B0
  have X1 := Lib.hid (show Blk _ w.heap.size _ _ from B0.out.box 0 _ _ rfl)
  have X2 := Lib.hid (show Blk _ (w.heap.size + 1) _ _ from B0.out.box 1 _ _ rfl)
  by_cases e1 : k = 0
  cases e2 : veq ⟨v0, v1, v2, v3, v4, v5⟩ ⟨0, 0, 0, ⟨#[]⟩, false, 0⟩
  rotate_left
  by_cases e3 : s.toList = []
  cases e4 : (ceq ⟨(p0, p1), (p2, p3), p4, p5⟩ ⟨(0, 0), (0, 0), false, false⟩ && ceq ⟨(q0, q1), (q2, q3), q4, q5⟩ ⟨(0, 0), (0, 0), false, false⟩)
  rotate_left
  by_cases e5 : r = 0
  by_cases e6 : (n : Int) = 0
  all_goals
    try subst e1
    try subst e5
    try (have e9 : n = 0 := Int.ofNat_eq_zero.1 e6; subst e9)
    try (have e9 : ¬ n = 0 := fun h => e6 (Int.ofNat_eq_zero.2 h))
    go_enter Tryz.func58, Tryz.ntmps58
    go_upto_region 1 with fail
    generalize (w.alloc _).alloc _ = V at *
    have c0 := X1.out.cell 0; have c1 := X1.out.cell 1; have c2 := X1.out.cell 2; have c3 := X1.out.cell 3; have c4 := X1.out.cell 4; have c5 := X1.out.cell 5; have c6 := X1.out.cell 6; have c7 := X1.out.cell 7; have c8 := X1.out.cell 8; have c9 := X1.out.cell 9; have c10 := X1.out.cell 10; have c11 := X1.out.cell 11; have c12 := X1.out.cell 12; have c13 := X1.out.cell 13; have c14 := X1.out.cell 14; have c15 := X1.out.cell 15; have c16 := X1.out.cell 16; have c17 := X1.out.cell 17; have c18 := X1.out.cell 18; have c19 := X1.out.cell 19; have c20 := X1.out.cell 20; have c21 := X1.out.cell 21
    have d0 := X2.out.cell 0; have d1 := X2.out.cell 1; have d2 := X2.out.cell 2; have d3 := X2.out.cell 3; have d4 := X2.out.cell 4; have d5 := X2.out.cell 5; have d6 := X2.out.cell 6; have d7 := X2.out.cell 7; have d8 := X2.out.cell 8; have d9 := X2.out.cell 9; have d10 := X2.out.cell 10; have d11 := X2.out.cell 11; have d12 := X2.out.cell 12; have d13 := X2.out.cell 13; have d14 := X2.out.cell 14; have d15 := X2.out.cell 15; have d16 := X2.out.cell 16; have d17 := X2.out.cell 17; have d18 := X2.out.cell 18; have d19 := X2.out.cell 19; have d20 := X2.out.cell 20; have d21 := X2.out.cell 21
    clear X1 X2
  · have HB := Lib.hid (show b = true by rw [HV.out]; simp [*])
    obtain ⟨P, hP0, hPc, hPb⟩ : ∃ P : World → Prop, P V ∧ (∀ W, P W → W.cell? ⟨w.heap.size, 21, none⟩ = some (.slice A 0 c)) ∧ ∀ W, P W → Below w.heap.size w W := ⟨fun W => W = V, rfl, by rintro _ rfl; exact c21, by rintro _ rfl; exact B0.out.below⟩
    have Pc := Lib.hid hPc
    have Pb := Lib.hid hPb
    have P0 := Lib.hid hP0
    go_wp2_with fail
    clear hPc hPb hP0 HV e2 e3 e4 B0 c0 c1 c2 c3 c4 c5 c6 c7 c8 c9 c10 c11 c12 c13 c14 c15 c16 c17 c18 c19 c20 c21 d0 d1 d2 d3 d4 d5 d6 d7 d8 d9 d10 d11 d12 d13 d14 d15 d16 d17 d18 d19 d20 d21
    go_loopw [5] (fun iv wx => iv = .int .i64 0 ∧ Hid (P wx)) (fun _ _ => 0)
    case atStart => exact ⟨rfl, P0⟩
    obtain ⟨rfl, hB⟩ := hrel
    have c21 := Pc.out _ hB.out
    go_wp2_with fail
    go_ret
    exact ⟨by rw [HB.out]; rfl, Pb.out _ hB.out⟩
  all_goals
    go_wp2_with fail
    go_ret
    exact ⟨by rw [HV.out]; simp [*], B0.out.below⟩
theorem nfEq_zero {f : Nf} {n : Nat} (h : nfEq f .zero n 0 = true) : f = .zero ∧ n = 0 := by
  unfold nfEq at h
  simp only [Bool.and_eq_true, beq_iff_eq, veq_true, ceq, ideq_true, Nf.zero, Cor.zero] at h
  obtain ⟨k, v, s, ⟨⟨p0, p1⟩, ⟨p2, p3⟩, p4, p5⟩, ⟨⟨q0, q1⟩, ⟨q2, q3⟩, q4, q5⟩, r⟩ := f
  simp only at h
  obtain ⟨⟨⟨⟨⟨rfl, rfl⟩, h3⟩, ⟨⟨⟨⟨⟨rfl, rfl⟩, rfl, rfl⟩, rfl⟩, rfl⟩, ⟨⟨⟨rfl, rfl⟩, rfl, rfl⟩, rfl⟩, rfl⟩⟩, rfl⟩, h6⟩ := h
  have hs : s = ⟨#[]⟩ := by
    rw [ByteArray.toList_eq, ByteArray.toList_eq] at h3
    exact ByteArray.ext (Array.toList_inj.mp h3)
  subst hs
  exact ⟨rfl, by simpa using h6⟩
end Go.Proofs.YtoicnghjjgkebaaGreatDoor
namespace Go.Proofs.YtoicnghjjgkebaaGreatDoor
open Go.RowKit
/-- A content's cells: its kind, its value, its tree. -/
def ccs (k : Int) (x : Val) (t : List Value) : List Value := .int .i64 k :: (x.cs ++ t)
/-- The zero tree, but that its nodes' slice may be there. -/
def zt (A : Option Addr) (c : Nat) : List Value := Nf.zero.cs (.slice A 0 c)
theorem ct_box {w : World} {X : Nat} {ty : TypeId} {k : Int} {x : Val} {t : List Value} (h : Blk w X ty (ccs k x t).toArray) :
    (w.cell? ⟨X, 0, none⟩ = some (.int .i64 k) ∧ w.cell? ⟨X, 1, none⟩ = some (.int .i64 x.kind) ∧ w.cell? ⟨X, 2, none⟩ = some (.int .i64 x.mant) ∧ w.cell? ⟨X, 3, none⟩ = some (.int .i64 x.exp) ∧ w.cell? ⟨X, 4, none⟩ = some (.string x.text) ∧ w.cell? ⟨X, 5, none⟩ = some (.bool x.truth) ∧ w.cell? ⟨X, 6, none⟩ = some (.int .i64 x.fault)) ∧ w.rangeAt X 7 t ∧ X < w.heap.size :=
  ⟨⟨h.cell 0, h.cell 1, h.cell 2, h.cell 3, h.cell 4, h.cell 5, h.cell 6⟩, (Seg.of h).part (a := .int .i64 k :: x.cs) (b := t) (c := []) (by simp [ccs]), h.lt⟩
set_option maxRecDepth 100000 in
set_option maxHeartbeats 4000000 in
theorem blank_c (x : Val) (w : World) : Calls Tryz.prog 34 #[.agg x.cs.toArray] w fun e w' => e = .returned (.bool (veq x zeroV)) ∧ Below w.heap.size w w' := by
  obtain ⟨k, m, e, t, b, f⟩ := x
  simp only [Val.cs]
  have HB := Lib.hid ((Below.refl _ w).alloc (Nat.le_refl _) (.cells #[.int .i64 k, .int .i64 m, .int .i64 e, .string t, .bool b, .int .i64 f] 33))
  go_enter Tryz.func34, Tryz.ntmps34
  go_wp2_with fail
  go_ret
  exact ⟨rfl, HB.out⟩
set_option maxRecDepth 100000 in
set_option maxHeartbeats 4000000 in
theorem vsame_c (x y : Val) (w : World) : Calls Tryz.prog 110 #[.agg x.cs.toArray, .agg y.cs.toArray] w fun e w' => e = .returned (.bool (veq x y)) ∧ Below w.heap.size w w' := by
  obtain ⟨k, m, e, t, b, f⟩ := x
  obtain ⟨k', m', e', t', b', f'⟩ := y
  simp only [Val.cs]
  have B0 := Lib.hid (Bxs.start w [(33, #[.int .i64 k, .int .i64 m, .int .i64 e, .string t, .bool b, .int .i64 f]), (33, #[.int .i64 k', .int .i64 m', .int .i64 e', .string t', .bool b', .int .i64 f'])])
  simp only [allocAll] at B0
  go_enter Tryz.func110, Tryz.ntmps110
  go_wp2_with fail
  go_ret
  exact ⟨rfl, B0.out.below⟩
set_option maxRecDepth 100000 in
set_option maxHeartbeats 4000000 in
theorem bare18_c (f : Nf) (A : Option Addr) (n c : Nat) (hm : n ≤ maxLen) (w : World) :
    Calls Tryz.prog 35 #[.agg (f.cs (.slice A n c)).toArray] w fun e w' => e = .returned (.bool (nfEq f .zero n 0)) ∧ Below w.heap.size w w' := by
  have HS := Lib.hid (same0_c f A n c hm)
  have B0 := Lib.hid (Bxs.start w [(40, (f.cs (.slice A n c)).toArray)])
  simp only [allocAll] at B0
  have hl0 : Hid ((f.cs (.slice A n c)).length = 22) := Lib.hid rfl
  have ld := Lib.hid (Seg.of (show Blk _ w.heap.size _ _ from B0.out.box 0 _ _ rfl)).lies
  generalize nfEq f .zero n 0 = b at *
  generalize f.cs (.slice A n c) = cs at *
  go_enter Tryz.func35, Tryz.ntmps35
  go_wp2_with (refine ld_step node_row rfl _ rfl _ _ rfl hl0.out ld.out ?_)
  refine (HS.out _).mono ?_
  rintro _ w1 ⟨rfl, b1⟩
  have B1 := Lib.hid (B0.out.next b1)
  clear b1 HS ld B0
  go_wp2_with fail
  go_ret
  exact ⟨rfl, B1.out.below⟩
/-- A load of a whole struct under a guard that holds. -/
theorem ld_stepG {ops : Array Oper} {rest : List Oper} {op : Oper} {a : Act} {w : World} {Q : Exit → Act → World → Prop} {T : TypeId} {k : Nat} (hT : RowT T k) (hw : Region.wanted op (yielded ops a.tmps) = true) (x : Operand) (ho : op.op = .load T x) (b o : Nat) (hx : a.eval x = .pointer (some ⟨b, o, none⟩)) {cs : List Value} (hl : cs.length = k) (hc : w.rangeAt b o cs)
    (h : wpList Tryz.prog ops Q rest (a.put op.dst (.agg cs.toArray)) w) : wpList Tryz.prog ops Q (op :: rest) a w := by
  obtain ⟨d, hd, hr⟩ := hT.und
  exact BigFrame.wpList_want hw (fun _ hK => wp_load_mid T x ho b o hx cs d hc hd hr (by rw [hl]; exact hT.size) (hK _ _ h))
/-- What a content that may be is, but for formulas. -/
def OkCt (k : Int) (x : Val) (f : Nf) (n : Nat) : Prop := f = .zero ∧ n = 0 ∧ ((k = 0 ∧ x = zeroV) ∨ (k = 1 ∧ x.kind ≠ 0 ∧ RightV x))
/-- A truth value is told; if it is true, so is P. -/
def RetO (P : Prop) (w : World) (e : Ending) (w' : World) : Prop := ∃ b : Bool, e = .returned (.bool b) ∧ Hid (b = true → P) ∧ Below w.heap.size w w'
set_option maxRecDepth 100000 in
set_option maxHeartbeats 4000000 in
theorem rright18_c (k : Int) (x : Val) (f : Nf) (A : Option Addr) (n c : Nat) (hk : k ≠ 2) (h1 : -9223372036854775808 ≤ x.mant) (h2 : x.mant ≤ 9223372036854775807) (h3 : -9223372036854775808 ≤ x.exp) (h4 : x.exp ≤ 9223372036854775807) (hm : n ≤ maxLen) (w : World) :
    Calls Tryz.prog 18 #[.agg (ccs k x (f.cs (.slice A n c))).toArray] w (RetO (OkCt k x f n) w) := by
  have B0 := Lib.hid (Bxs.start w [(42, (ccs k x (f.cs (.slice A n c))).toArray)])
  simp only [allocAll] at B0
  have HV := Lib.hid (rrightV_c x h1 h2 h3 h4)
  have HS := Lib.hid (bare18_c f A n c hm)
  have HZ := Lib.hid (blank_c x)
  have HF := Lib.hid (@nfEq_zero f n)
  have HX : Hid (k = 0 → veq x zeroV = true → nfEq f .zero n 0 = true → OkCt k x f n) := Lib.hid (fun a b c => ⟨(nfEq_zero c).1, (nfEq_zero c).2, .inl ⟨a, veq_true.1 b⟩⟩)
  have HY : Hid (k = 1 → ¬ x.kind = 0 → RightV x → nfEq f .zero n 0 = true → OkCt k x f n) := Lib.hid (fun a b r c => ⟨(nfEq_zero c).1, (nfEq_zero c).2, .inr ⟨a, b, r⟩⟩)
  have hl0 : Hid ((f.cs (.slice A n c)).length = 22) := Lib.hid rfl
  generalize OkCt k x f n = OK at *
  generalize nfEq f .zero n 0 = b9 at *
  generalize f.cs (.slice A n c) = t at *
  have HRV := Lib.hid (show ∀ e w w', RgV w x e w' → RgV w x e w' from fun _ _ _ h => h)
  obtain ⟨xk, xm, xe, xt, xb, xf⟩ := x
  obtain ⟨cs, hcs⟩ : ∃ cs, cs = (ccs k ⟨xk, xm, xe, xt, xb, xf⟩ t).toArray := ⟨_, rfl⟩
  rw [← hcs] at B0 ⊢
  have HCS := Lib.hid hcs
  obtain ⟨⟨c0, c1, c2, c3, c4, c5, c6⟩, hr, lX⟩ := ct_box (show Blk _ w.heap.size 42 _ from by rw [← hcs]; exact B0.out.box 0 _ _ rfl)
  have ld := Lib.hid hr
  simp only [Val.cs] at HV HZ HY
  dsimp only at c1 c2 c3 c4 c5 c6
  clear hr h1 h2 h3 h4 hm hcs HF HRV
  by_cases k0 : k = 0
  · subst k0
    have HX' := HX
    clear HV HY hk
    go_enter Tryz.func18, Tryz.ntmps18
    go_wp2_with (first | refine ld_stepG node_row rfl _ rfl _ _ rfl hl0.out ld.out ?_ | fail)
    refine (HZ.out _).mono ?_
    rintro _ w1 ⟨rfl, b1⟩
    clear c0 c1 c2 c3 c4 c5 c6 ld lX
    have B1 := Lib.hid (B0.out.next b1)
    have X1 := ct_box (show Blk _ w.heap.size 42 _ from by rw [← HCS.out]; exact B1.out.box 0 _ _ rfl)
    obtain ⟨⟨c0, c1, c2, c3, c4, c5, c6⟩, hr, lX⟩ := X1
    have ld := Lib.hid hr
    dsimp only at c1 c2 c3 c4 c5 c6
    clear hr b1 B0
    cases hv : veq ⟨xk, xm, xe, xt, xb, xf⟩ zeroV
    · go_wp2_with fail
      go_ret
      exact ⟨false, rfl, Lib.hid (fun h => by cases h), B1.out.below⟩
    · have HVT := Lib.hid hv
      clear hv
      go_wp2_with (first | refine ld_stepG node_row rfl _ rfl _ _ rfl hl0.out ld.out ?_ | fail)
      refine (HS.out _).mono ?_
      rintro _ w2 ⟨rfl, b2⟩
      have B2 := Lib.hid (B1.out.next b2)
      clear b2 B1 c0 c1 c2 c3 c4 c5 c6 ld lX
      go_wp2_with fail
      go_ret
      exact ⟨b9, rfl, Lib.hid (fun h => HX.out trivial HVT.out h), B2.out.below⟩
  by_cases k1 : k = 1
  · subst k1
    clear HX HZ hk k0
    by_cases x0 : xk = 0
    · go_enter Tryz.func18, Tryz.ntmps18
      go_wp2_with (first | refine ld_stepG node_row rfl _ rfl _ _ rfl hl0.out ld.out ?_ | fail)
      go_ret
      exact ⟨false, rfl, Lib.hid (fun h => by cases h), B0.out.below⟩
    · have HX0 := Lib.hid x0
      go_enter Tryz.func18, Tryz.ntmps18
      go_wp2_with (first | refine ld_stepG node_row rfl _ rfl _ _ rfl hl0.out ld.out ?_ | fail)
      refine (HV.out _).mono ?_
      rintro _ w1 ⟨b8, rfl, h8, b1⟩
      have x0b : (xk != 0) = true := by simpa using x0
      simp only [x0b]
      have H8 := Lib.hid h8
      clear c0 c1 c2 c3 c4 c5 c6 ld lX h8 HV
      have B1 := Lib.hid (B0.out.next b1)
      have X1 := ct_box (show Blk _ w.heap.size 42 _ from by rw [← HCS.out]; exact B1.out.box 0 _ _ rfl)
      obtain ⟨⟨c0, c1, c2, c3, c4, c5, c6⟩, hr, lX⟩ := X1
      have ld := Lib.hid hr
      dsimp only at c1 c2 c3 c4 c5 c6
      clear hr b1 B0
      cases b8
      · go_wp2_with fail
        go_ret
        exact ⟨false, rfl, Lib.hid (fun h => by cases h), B1.out.below⟩
      · go_wp2_with (first | refine ld_stepG node_row rfl _ rfl _ _ rfl hl0.out ld.out ?_ | fail)
        refine (HS.out _).mono ?_
        rintro _ w2 ⟨rfl, b2⟩
        have B2 := Lib.hid (B1.out.next b2)
        clear b2 B1 c0 c1 c2 c3 c4 c5 c6 ld lX
        go_wp2_with fail
        go_ret
        exact ⟨b9, rfl, Lib.hid (fun h => HY.out trivial HX0.out (H8.out.1 trivial) h), B2.out.below⟩
  · go_enter Tryz.func18, Tryz.ntmps18
    go_wp2_with fail
    go_ret
    exact ⟨false, rfl, Lib.hid (fun h => by cases h), B0.out.below⟩
end Go.Proofs.YtoicnghjjgkebaaGreatDoor
namespace Go.Proofs.YtoicnghjjgkebaaGreatDoor
open Go.RowKit
theorem nfEq_zz : nfEq .zero .zero 0 0 = true := by
  unfold nfEq ceq ideq
  simp [veq_true]
set_option maxRecDepth 100000 in
set_option maxHeartbeats 4000000 in
/-- tree.Same of a zero tree and the zero one. -/
theorem tsame_c (A : Option Addr) (c : Nat) (w : World) : Calls Tryz.prog 55 #[.agg (zt A c).toArray, .agg nodeZ.toArray] w fun e w' => e = .returned (.bool true) ∧ Below w.heap.size w w' := by
  have B0 := Lib.hid (Bxs.start w [(40, (zt A c).toArray), (40, nodeZ.toArray), (223, #[.pointer (some ⟨w.heap.size, 0, none⟩), .pointer (some ⟨w.heap.size + 1, 0, none⟩)])])
  simp only [allocAll] at B0
  have HAL := Lib.hid (fun W h1 h2 => alike_c .zero .zero A none 0 0 c 0 w.heap.size 0 (w.heap.size + 1) 0 W h1 h2)
  rw [nfEq_zz] at HAL
  obtain ⟨P, hP0, hPn, hPc, hPb⟩ : ∃ P : World → Prop, P _ ∧ (∀ W W', P W → Below W.heap.size W W' → P W') ∧ (∀ W, P W → Blk W w.heap.size 40 (zt A c).toArray ∧ Blk W (w.heap.size + 1) 40 nodeZ.toArray ∧ Blk W (w.heap.size + 2) 223 #[.pointer (some ⟨w.heap.size, 0, none⟩), .pointer (some ⟨w.heap.size + 1, 0, none⟩)]) ∧ ∀ W, P W → Below w.heap.size w W :=
    ⟨fun W => Bxs w W _, B0.out, fun _ _ h k => h.next k, fun _ h => ⟨h.box 0 _ _ rfl, h.box 1 _ _ rfl, h.box 2 _ _ rfl⟩, fun _ h => h.below⟩
  have P0 := Lib.hid hP0
  have Pn := Lib.hid hPn
  have Pc := Lib.hid hPc
  have Pb := Lib.hid hPb
  clear hP0 hPn hPc hPb B0
  have hz : Hid ((zt A c).toArray[21]? = some (.slice A 0 c)) := Lib.hid rfl
  obtain ⟨z1, hz1⟩ : ∃ z, z = (zt A c).toArray := ⟨_, rfl⟩
  obtain ⟨z2, hz2⟩ : ∃ z, z = nodeZ.toArray := ⟨_, rfl⟩
  have HZ1 := Lib.hid hz1
  have HZ2 := Lib.hid hz2
  rw [← hz1] at P0 Pc hz ⊢
  rw [← hz2] at P0 Pc ⊢
  clear hz1 hz2
  go_enter Tryz.func55, Tryz.ntmps55
  go_wp2_with fail
  go_loopw [5] (fun sv wx => (∃ n, n ≤ 1 ∧ sv = .slice (some ⟨w.heap.size + 2, 0, none⟩) n 1) ∧ Hid (P wx)) (fun sv _ => match sv with | .slice _ n _ => n | _ => 0)
  case atStart => exact ⟨⟨1, Nat.le_refl _, rfl⟩, P0⟩
  case round =>
    obtain ⟨⟨n, hn, rfl⟩, hB⟩ := hrel
    obtain ⟨x0, x1, x2⟩ := Pc.out _ hB.out
    have c21 := (x0.cell 21).trans hz.out
    obtain ⟨p0, p1, q0, q1, lp⟩ := x2.two
    rcases Nat.lt_or_ge n 1 with h0 | h0
    · obtain rfl : n = 0 := by omega
      clear x0 x1 x2
      go_wp2_with fail
      go_ret
      exact ⟨rfl, Pb.out _ hB.out⟩
    · obtain rfl : n = 1 := by omega
      have HX0 := Lib.hid x0
      have HX1 := Lib.hid x1
      clear x0 x1 x2
      go_wp2_with fail
      have b1 : Below wr.heap.size wr (wr.alloc (.cells #[.pointer (some ⟨w.heap.size, 0, none⟩), .pointer (some ⟨w.heap.size + 1, 0, none⟩)] 223)) := (Below.refl _ _).alloc (Nat.le_refl _) _
      refine (HAL.out _ ?_ ?_).mono ?_
      · have := (Seg.of (by rw [← HZ1.out]; exact HX0.out.alloc _ : Blk (wr.alloc (.cells #[.pointer (some ⟨w.heap.size, 0, none⟩), .pointer (some ⟨w.heap.size + 1, 0, none⟩)] 223)) w.heap.size 40 (zt A c).toArray)).lies
        exact this
      · have := (Seg.of (by rw [← HZ2.out]; exact HX1.out.alloc _ : Blk (wr.alloc (.cells #[.pointer (some ⟨w.heap.size, 0, none⟩), .pointer (some ⟨w.heap.size + 1, 0, none⟩)] 223)) (w.heap.size + 1) 40 nodeZ.toArray)).lies
        exact this
      rintro _ w1 ⟨rfl, b2⟩
      have B1 := Lib.hid (Pn.out _ _ (Pn.out _ _ hB.out b1) b2)
      have r1 := ((Blk.new wr 223 #[.pointer (some ⟨w.heap.size, 0, none⟩), .pointer (some ⟨w.heap.size + 1, 0, none⟩)]).kept (b2.block _ (by simp))).two
      obtain ⟨g0, g1, -, -, lg⟩ := r1
      have c21 := ((Pc.out _ B1.out).1.cell 21).trans hz.out
      clear b1 b2 HX0 HX1 p0 p1 q0 q1 lp hB
      go_wp2_with fail
      go_loopw [5, 36] (fun sv iv wx => sv = .slice (some ⟨w.heap.size + 2, 0, none⟩) 0 1 ∧ iv = .int .i64 0 ∧ Hid (P wx)) (fun _ _ _ => 0)
      case atStart => exact ⟨rfl, rfl, B1⟩
      case round =>
        obtain ⟨rfl, rfl, hB⟩ := hrel
        go_wp2_with fail
        go_roundw
        case rel => exact ⟨⟨0, by omega, rfl⟩, hB⟩
        case measure => simp
set_option maxRecDepth 100000 in
set_option maxHeartbeats 4000000 in
theorem isCell_c (x : Cel) (w : World) : Calls Tryz.prog 31 #[.agg x.cs.toArray] w fun e w' => e = .returned (.bool (!(ideq x.1.1 x.1.2 0 0) && !(ideq x.2.1 x.2.2 0 0))) ∧ Below w.heap.size w w' := by
  obtain ⟨⟨a, b⟩, c, d⟩ := x
  simp only [Cel.cs]
  have B0 := Lib.hid (Bxs.start w [(29, #[.int .i64 a, .int .i64 b, .int .i64 c, .int .i64 d])])
  simp only [allocAll] at B0
  go_enter Tryz.func31, Tryz.ntmps31
  cases h1 : ideq a b 0 0
  all_goals
    go_wp2_with fail
    go_ret
    exact ⟨by simp, B0.out.below⟩
set_option maxRecDepth 100000 in
set_option maxHeartbeats 4000000 in
theorem is18_c (x : Cel) (w : World) : Calls Tryz.prog 19 #[.agg x.cs.toArray] w fun e w' => e = .returned (.bool (!(ideq x.1.1 x.1.2 0 0) && !(ideq x.2.1 x.2.2 0 0))) ∧ Below w.heap.size w w' := by
  obtain ⟨⟨a, b⟩, c, d⟩ := x
  simp only [Cel.cs]
  have B0 := Lib.hid (Bxs.start w [(29, #[.int .i64 a, .int .i64 b, .int .i64 c, .int .i64 d])])
  simp only [allocAll] at B0
  go_enter Tryz.func19, Tryz.ntmps19
  cases h1 : ideq a b 0 0
  all_goals
    go_wp2_with fail
    go_ret
    exact ⟨by simp, B0.out.below⟩
end Go.Proofs.YtoicnghjjgkebaaGreatDoor
