/-
  Build: what lies in memory while it is at work. No condition.
-/
import Derived.Test.YtoicnghjjgkebaaGreatDoorN29
set_option linter.unusedSectionVars false
set_option linter.unusedSimpArgs false
set_option linter.unusedVariables false
set_option linter.unnecessarySimpa false
namespace Go.Proofs.YtoicnghjjgkebaaGreatDoor
open Go.RowKit Go.Shelf
attribute [local go_sem] Oper.semAt_some
/-- A thing typed, as it lies in memory: where, what, and a tree. -/
structure CV where
  at_ : Cel
  k : Int
  v : Val
  f : Nf
  A : Option Addr
  l : List Nd
  c : Nat
def CV.tree (u : CV) : List Value := u.f.cs (.slice u.A u.l.length (u.l.length + u.c))
def CV.ct (u : CV) : List Value := ccs u.k u.v u.tree
def CV.cs (u : CV) : List Value := u.at_.cs ++ u.ct
theorem CV.len (u : CV) : u.cs.length = 33 := rfl
theorem CV.ones (u : CV) : ∀ x ∈ u.cs, x.oneCell' = true := by
  intro x hx
  unfold CV.cs CV.ct ccs CV.tree at hx
  simp only [Cel.cs, Val.cs, List.mem_append, List.mem_cons, List.not_mem_nil, or_false] at hx
  rcases hx with (rfl | rfl | rfl | rfl) | rfl | (rfl | rfl | rfl | rfl | rfl | rfl) | h
  all_goals first | rfl | exact nf_one _ _ rfl _ h
/-- Its parts may be asked. -/
def CV.Ok (d : Nat) (w : World) (u : CV) : Prop := KidsT w d u.A u.l ∧ (Nd.mk u.f u.l).size ≤ 1048576 ∧ (-9223372036854775808 ≤ u.v.mant ∧ u.v.mant ≤ 9223372036854775807 ∧ -9223372036854775808 ≤ u.v.exp ∧ u.v.exp ≤ 9223372036854775807) ∧ u.l.length ≤ maxLen
theorem CV.Ok.next {d : Nat} {w w' : World} {u : CV} (h : u.Ok d w) (b : Below w.heap.size w w') : u.Ok d w' := ⟨h.1.next b, h.2⟩
/-- A content that may be, as it lies in memory: its tree is the zero one. -/
structure LC where
  k : Int
  v : Val
  A : Option Addr
  c : Nat
def LC.cs (u : LC) : List Value := ccs u.k u.v (zt u.A u.c)
def LC.kv (u : LC) : Int × Val := (u.k, u.v)
def lcZ : LC := ⟨0, zeroV, none, 0⟩
theorem LC.len (u : LC) : u.cs.length = 29 := rfl
theorem LC.ones (u : LC) : ∀ x ∈ u.cs, x.oneCell' = true := by
  intro x hx
  unfold LC.cs ccs zt at hx
  simp only [Val.cs, List.mem_append, List.mem_cons, List.not_mem_nil, or_false] at hx
  rcases hx with rfl | (rfl | rfl | rfl | rfl | rfl | rfl) | h
  all_goals first | rfl | exact nf_one _ _ rfl _ h
theorem cv_row : RowT 44 33 := ⟨⟨_, Tryz.underlying44, rfl⟩, by kernel_rfl⟩
theorem Tryz.infoCt : (Tryz.prog.info? 42).map (fun i => (i.zero, i.size, i.bytes)) = some (some (.agg ctZ.toArray), 29, 256) := by kernel_rfl
theorem made_flat {α : Type} {f : α → List Value} {k : Nat} (hf : ∀ z, (f z).length = k) (hk : 0 < k) (y : α) (n : Nat) : madeCells (f y).toArray (n * k) = ((List.replicate n y).flatMap f).toArray := by
  have hl : ((List.replicate n y).flatMap f).length = n * k := by rw [flat_len hf, List.length_replicate]
  apply Array.ext
  · rw [size_madeCells, List.size_toArray, hl]
  · intro j h1 h2
    rw [size_madeCells] at h1
    have hd : j / k < n := Nat.div_lt_of_lt_mul (by rw [Nat.mul_comm]; exact h1)
    have hr : j % k < k := Nat.mod_lt _ hk
    have e := flat_get hf (List.replicate n y) (j / k) (by simpa using hd) (j % k) ((f y)[j % k]'(by rw [hf]; exact hr)) (by rw [List.getElem_replicate, List.getElem?_eq_getElem])
    rw [show j / k * k + j % k = j by rw [Nat.mul_comm]; exact Nat.div_add_mod j k] at e
    have e2 : ((List.replicate n y).flatMap f)[j]'(by rw [hl]; exact h1) = (f y)[j % k]'(by rw [hf]; exact hr) := by
      rw [List.getElem?_eq_getElem (by rw [hl]; exact h1)] at e
      exact Option.some.inj e
    have e3 : (madeCells (f y).toArray (n * k))[j]'(by rw [size_madeCells]; exact h1) = (f y)[j % k]'(by rw [hf]; exact hr) := by
      simp only [madeCells, Array.getElem_map, Array.getElem_range, List.size_toArray, hf]
      rw [getElem!_pos _ _ (by simpa [hf] using hr)]
      simp
    exact e3.trans (e2.symm.trans (by simp))
theorem make_L (n : Nat) (hn : n ≤ 36) (w : World) : (Instr.makeSlice 47 (.int .i64 n) (.int .i64 n)).run Tryz.prog w = .ok (.slice (some ⟨w.heap.size, 0, none⟩) n n) (w.alloc (.cells ((List.replicate n lcZ).flatMap LC.cs).toArray 42)) := by
  obtain ⟨i0, hi, hz0, hz1, hz2⟩ := info_parts Tryz.infoCt
  have hr := run_makeSlice (P := Tryz.prog) w 47 42 i0 _ Tryz.underlying47 hi hz0 .i64 .i64 n n (by omega) (Int.le_refl _) (by rw [hz1]; simp; omega) (by rw [hz2]; omega) (by omega)
  rw [hz1] at hr
  simp only [Int.toNat_natCast] at hr
  rw [hr, ← made_flat (f := LC.cs) (k := 29) LC.len (by decide) lcZ n]
  rfl
theorem wpList_makeL {ops : Array Oper} {rest : List Oper} {o : Oper} {a : Act} {w : World} {Q : Exit → Act → World → Prop} (hg : o.guard = none) (x y : Operand) (ho : o.op = .makeSlice 47 x y) (n : Nat) (hn : n ≤ 36) (hx : a.eval x = .int .i64 n) (hy : a.eval y = .int .i64 n)
    (h : wpList Tryz.prog ops Q rest (a.put o.dst (.slice (some ⟨w.heap.size, 0, none⟩) n n)) (w.alloc (.cells ((List.replicate n lcZ).flatMap LC.cs).toArray 42))) : wpList Tryz.prog ops Q (o :: rest) a w := by
  refine Great.wpList_runTo hg o.dst rfl _ _ ?_ h
  simp only [execOp, ho, hx, hy, Sem.run_bind, Sem.run_pure, make_L n hn, Result.andThen_ok]
/-- What lies in memory while Build is at work. -/
structure BuM (w : World) (own : Tags) (b1 b3 b8 S pR pC pS pN gL : Nat) (PL : Array Value) (R C : Nat) (Ar Ac : Option Addr) (cr cc : Nat) (m : Option Nat) (kvs : List (Cel × Val)) (Lc : List LC) (W : World) : Prop where
  bw : Below w.heap.size w W
  x1 : Blk W b1 24 PL
  x3 : Blk W b3 49 #[.slice none 0 0, .slice none 0 0, .slice none 0 0]
  x8 : Blk W b8 49 #[.slice Ar R cr, .slice Ac C cc, .slice (some ⟨gL, 0, none⟩) (R * C) (R * C)]
  rr : W.ownsRow w.heap.size 27 2 (.slice Ar R cr) R ((idsN R).flatMap idf)
  rc : W.ownsRow w.heap.size 27 2 (.slice Ac C cc) C ((idsN C).flatMap idf)
  sh : ShB W S pR pC pS pN
  st : StA W pS m kvs
  aR : AxisAt W own 1 pR (idsN R) (List.replicate (idsN R).length true)
  aC : AxisAt W own 2 pC (idsN C) (List.replicate (idsN C).length true)
  L : Blk W gL 42 (Lc.flatMap LC.cs).toArray
  ow : own pS = 0 ∧ own S = 0 ∧ own gL = 0 ∧ ∀ b, m = some b → own b = 0
  fr : ∀ k, own k ≠ 0 → k < W.heap.size ∧ w.heap.size ≤ k
  ne : w.heap.size ≤ pS ∧ w.heap.size ≤ gL ∧ ∀ b, m = some b → w.heap.size ≤ b
section
variable {w : World} {own : Tags} {b1 b3 b8 S pR pC pS pN gL : Nat} {PL : Array Value} {R C : Nat} {Ar Ac : Option Addr} {cr cc : Nat} {m : Option Nat} {kvs : List (Cel × Val)} {Lc : List LC} {W W' : World}
theorem StA.below (h : StA W pS m kvs) (b : Below W.heap.size W W') : StA W' pS m kvs := ⟨h.1.kept (b.block _ h.1.lt), h.2.kept (fun k e => by subst e; exact b.block _ (show MapG celv W k (kvv kvs) from h.2).lt)⟩
theorem BuM.below (H : BuM w own b1 b3 b8 S pR pC pS pN gL PL R C Ar Ac cr cc m kvs Lc W) (b : Below W.heap.size W W') : BuM w own b1 b3 b8 S pR pC pS pN gL PL R C Ar Ac cr cc m kvs Lc W' :=
  ⟨H.bw.trans (b.mono H.bw.size), H.x1.kept (b.block _ H.x1.lt), H.x3.kept (b.block _ H.x3.lt), H.x8.kept (b.block _ H.x8.lt), ownsRow_kept H.rr (fun g _ hg => b.block g hg), ownsRow_kept H.rc (fun g _ hg => b.block g hg), H.sh.kept (b.block _ H.sh.lt), H.st.below b, H.aR.keep (Same.below b), H.aC.keep (Same.below b), H.L.kept (b.block _ H.L.lt), H.ow, fun k hk => ⟨Nat.lt_of_lt_of_le (H.fr k hk).1 b.size, (H.fr k hk).2⟩, H.ne⟩
theorem row_kept {base k n : Nat} {e t : TypeId} {v : Value} {xs : List Value} {cs : Array Value} {g : Nat} (h : W.ownsRow base e k v n xs) (hg : Blk W g t cs) (ht : e ≠ t) (hw : ∀ j, j < W.heap.size → j ≠ g → W'.heap[j]? = W.heap[j]?) : W'.ownsRow base e k v n xs := ownsRow_kept h fun j hj hl => hw j hl fun e2 => by
  subst e2
  rcases h.2 with ⟨hv, -⟩ | ⟨g', cap, cur, hv, -, hg', -⟩
  · rw [hv] at hj; cases hj
  · rw [hv] at hj
    cases hj
    unfold Blk at hg
    rw [hg] at hg'
    cases hg'
    exact ht rfl
theorem BuM.setL (H : BuM w own b1 b3 b8 S pR pC pS pN gL PL R C Ar Ac cr cc m kvs Lc W) {Lc' : List LC} (hc : Chg (fun k => k ≠ gL) W W') (hL : Blk W' gL 42 (Lc'.flatMap LC.cs).toArray) : BuM w own b1 b3 b8 S pR pC pS pN gL PL R C Ar Ac cr cc m kvs Lc' W' := by
  have hB : ∀ {b : Nat} {t : TypeId} {cs : Array Value}, Blk W b t cs → t ≠ 42 → Blk W' b t cs := fun hb ht => hb.kept (hc.block _ hb.lt (blk_ne hb H.L ht))
  have sm : ∀ t, t ≠ 0 → Same t own W own W' := fun t ht j hj he => ⟨hc.block j hj (fun e => by rw [e, H.ow.2.2.1] at he; exact ht he.symm), he⟩
  exact ⟨⟨hc.os.trans H.bw.os, hc.tape.trans H.bw.tape, hc.output.trans H.bw.output, Nat.le_trans H.bw.size hc.size, fun k hk => (hc.block k (Nat.lt_of_lt_of_le hk H.bw.size) (by have := H.ne.2.1; omega)).trans (H.bw.block k hk)⟩,
    hB H.x1 (by decide), hB H.x3 (by decide), hB H.x8 (by decide), row_kept H.rr H.L (by decide) hc.block, row_kept H.rc H.L (by decide) hc.block, hB H.sh (by decide), ⟨hB H.st.1 (by decide), H.st.2.kept (fun k e => by subst e; exact hc.block _ (show MapG celv W k (kvv kvs) from H.st.2).lt (map_ne (show MapG celv W k (kvv kvs) from H.st.2) H.L))⟩,
    H.aR.keep (sm 1 (by decide)), H.aC.keep (sm 2 (by decide)), hL, H.ow, fun k hk => ⟨Nat.lt_of_lt_of_le (H.fr k hk).1 hc.size, (H.fr k hk).2⟩, H.ne⟩
theorem BuM.put (H : BuM w own b1 b3 b8 S pR pC pS pN gL PL R C Ar Ac cr cc m kvs Lc W) {e : Ending} {kvs' : List (Cel × Val)} (h : PutP pS m kvs' W e W') : (∃ m', BuM w own b1 b3 b8 S pR pC pS pN gL PL R C Ar Ac cr cc m' kvs' Lc W') ∧ ∀ {b : Nat} {t : TypeId} {cs : Array Value}, Blk W b t cs → t ≠ 116 → Blk W' b t cs := by
  obtain ⟨-, m', hst, hm, hc⟩ := h
  have hmb : ∀ {k b : Nat} {t : TypeId} {cs : Array Value}, m = some k → Blk W b t cs → k ≠ b := fun e hb => by subst e; exact map_ne (show MapG celv W _ (kvv kvs) from H.st.2) hb
  have hB : ∀ {b : Nat} {t : TypeId} {cs : Array Value}, Blk W b t cs → t ≠ 116 → Blk W' b t cs := fun hb ht => hb.kept (hc.block _ hb.lt ⟨blk_ne hb H.st.1 ht, fun e => hmb e hb rfl⟩)
  have sm : ∀ t, t ≠ 0 → Same t own W own W' := fun t ht j hj he => ⟨hc.block j hj ⟨fun e => by rw [e, H.ow.1] at he; exact ht he.symm, fun e => by rw [H.ow.2.2.2 j e] at he; exact ht he.symm⟩, he⟩
  have hR : ∀ {n : Nat} {v : Value} {xs : List Value}, W.ownsRow w.heap.size 27 2 v n xs → W'.ownsRow w.heap.size 27 2 v n xs := fun h => ownsRow_kept h fun j hj hl => hc.block j hl (by
    rcases h.2 with ⟨hv, -⟩ | ⟨g', cap, cur, hv, -, hg', -⟩
    · rw [hv] at hj; cases hj
    · rw [hv] at hj
      cases hj
      refine ⟨fun e => ?_, fun e => ?_⟩
      · have h2 := H.st.1
        unfold Blk at h2
        rw [← e, hg'] at h2
        cases h2
      · subst e
        obtain ⟨es, c, h1, -⟩ := (show MapG celv W _ (kvv kvs) from H.st.2)
        rw [hg'] at h1
        cases h1)
  refine ⟨⟨m', ⟨hc.os.trans H.bw.os, hc.tape.trans H.bw.tape, hc.output.trans H.bw.output, Nat.le_trans H.bw.size hc.size, fun k hk => (hc.block k (Nat.lt_of_lt_of_le hk H.bw.size) ⟨by have := H.ne.1; omega, fun e => by have := H.ne.2.2 k e; omega⟩).trans (H.bw.block k hk)⟩,
    hB H.x1 (by decide), hB H.x3 (by decide), hB H.x8 (by decide), hR H.rr, hR H.rc, hB H.sh (by decide), hst, H.aR.keep (sm 1 (by decide)), H.aC.keep (sm 2 (by decide)), hB H.L (by decide), ⟨H.ow.1, H.ow.2.1, H.ow.2.2.1, ?_⟩, fun k hk => ⟨Nat.lt_of_lt_of_le (H.fr k hk).1 hc.size, (H.fr k hk).2⟩, ⟨H.ne.1, H.ne.2.1, ?_⟩⟩, fun h ht => hB h ht⟩
  · rintro b rfl
    rcases hm with rfl | ⟨-, b', e, hb⟩
    · exact H.ow.2.2.2 b rfl
    · cases e
      rcases Nat.eq_zero_or_pos (own b) with h | h
      · exact h
      · have := (H.fr b (by omega)).1; omega
  · rintro b rfl
    rcases hm with rfl | ⟨-, b', e, hb⟩
    · exact H.ne.2.2 b rfl
    · cases e
      exact Nat.le_trans H.bw.size hb
end
/-- All that is kept from thing to thing. -/
structure BuL (w : World) (own : Tags) (b1 b3 b8 S pR pC pS pN gL : Nat) (PL : Array Value) (R C : Nat) (Ar Ac : Option Addr) (cr cc : Nat) (i : Nat) (W : World) : Prop where
  ex : ∃ m kvs Lc, BuM w own b1 b3 b8 S pR pC pS pN gL PL R C Ar Ac cr cc m kvs Lc W ∧ Agree R C kvs (Lc.map LC.kv) ∧ kvs.length ≤ i
theorem stepK_le (kvs : List (Cel × Val)) (c : Cel × Int × Val) : (stepK kvs c).length ≤ kvs.length + 1 := by
  unfold stepK
  split
  · split
    · exact Nat.le_succ_of_le (delG_sub _ _).length_le
    · exact putG_len _ _ _
  · exact Nat.le_succ _
/-- The list of all places while a thing typed is laid into it: up to place p. -/
def stepAt (R C : Nat) (L : List LC) (x : Cel) (u : LC) (p : Nat) : List LC := match idx R C x with
  | some j => if j < p then L.set j u else L
  | none => L
theorem stepAt_zero (R C : Nat) (L : List LC) (x : Cel) (u : LC) : stepAt R C L x u 0 = L := by
  unfold stepAt
  split <;> simp
theorem stepAt_all (R C : Nat) (L : List LC) (x : Cel) (u : LC) : stepAt R C L x u (R * C) = stepL R C L x u := by
  unfold stepAt stepL
  cases h : idx R C x with
  | some j => simp only; rw [if_pos (idx_lt h)]
  | none => rfl
theorem stepAt_len (R C : Nat) (L : List LC) (x : Cel) (u : LC) (p : Nat) : (stepAt R C L x u p).length = L.length := by
  unfold stepAt
  split
  · split <;> simp
  · rfl
theorem stepAt_hit {R C : Nat} (L : List LC) (u : LC) {i k : Nat} (hi : i < R) (hk : k < C) : (stepAt R C L (celN i k) u (i * C + k)).set (i * C + k) u = stepAt R C L (celN i k) u (i * C + k + 1) := by
  unfold stepAt
  rw [celN_idx hi hk]
  simp
theorem stepAt_miss {R C : Nat} (L : List LC) {x : Cel} (u : LC) {i k : Nat} (hk : k < C) (hx : x ≠ celN i k) : stepAt R C L x u (i * C + k + 1) = stepAt R C L x u (i * C + k) := by
  unfold stepAt
  split
  · rename_i j hj
    obtain ⟨i', k', hi', hk', rfl, rfl⟩ := idx_celN hj
    have hne : i' * C + k' ≠ i * C + k := fun e => hx (by obtain ⟨rfl, rfl⟩ := mul_inj hk' hk e; rfl)
    by_cases h : i' * C + k' < i * C + k
    · rw [if_pos h, if_pos (by omega)]
    · rw [if_neg h, if_neg (by omega)]
  · rfl
/-- In the midst of laying a thing into the list of all places. -/
structure BuI (w : World) (own : Tags) (b1 b3 b8 S pR pC pS pN gL : Nat) (PL : Array Value) (R C : Nat) (Ar Ac : Option Addr) (cr cc : Nat) (m : Option Nat) (kvs : List (Cel × Val)) (Lc : List LC) (x : Cel) (uL : LC) (bx : Nat) (cs : Array Value) (p : Nat) (W : World) : Prop where
  bu : BuM w own b1 b3 b8 S pR pC pS pN gL PL R C Ar Ac cr cc m kvs (stepAt R C Lc x uL p) W
  bx : Blk W bx 44 cs
theorem BuI.below {w : World} {own : Tags} {b1 b3 b8 S pR pC pS pN gL : Nat} {PL : Array Value} {R C : Nat} {Ar Ac : Option Addr} {cr cc : Nat} {m : Option Nat} {kvs : List (Cel × Val)} {Lc : List LC} {x : Cel} {uL : LC} {bx : Nat} {cs : Array Value} {p : Nat} {W W' : World} (h : BuI w own b1 b3 b8 S pR pC pS pN gL PL R C Ar Ac cr cc m kvs Lc x uL bx cs p W) (b : Below W.heap.size W W') : BuI w own b1 b3 b8 S pR pC pS pN gL PL R C Ar Ac cr cc m kvs Lc x uL bx cs p W' := ⟨h.bu.below b, h.bx.kept (b.block _ h.bx.lt)⟩
/-- The i-th id of a row. -/
theorem id_at {W : World} {base n c : Nat} {A : Option Addr} (h : W.ownsRow base 27 2 (.slice A n c) n ((idsN n).flatMap idf)) {i : Nat} (hi : i < n) : ∃ g, A = some ⟨g, 0, none⟩ ∧ W.cell? ⟨g, i * 2, none⟩ = some (.int .i64 0) ∧ W.cell? ⟨g, i * 2 + 1, none⟩ = some (.int .i64 ((i : Int) + 1)) := by
  rcases h.2 with ⟨-, h0⟩ | ⟨g, cap, cur, hv, hb, hg, hr⟩
  · omega
  · cases hv
    have hS := seg_row (k := 2) h
    have he := seg_el (f := idf) (k := 2) (fun _ => rfl) hS (idsN_get hi)
    exact ⟨g, rfl, he 0 _ rfl, by have := he 1 _ rfl; simpa using this⟩
theorem stepL_map {R C : Nat} (L : List LC) (x : Cel) (u : LC) : (stepL R C L x u).map LC.kv = stepL R C (L.map LC.kv) x u.kv := by
  unfold stepL
  split
  · rw [List.map_set]
  · rfl
end Go.Proofs.YtoicnghjjgkebaaGreatDoor
