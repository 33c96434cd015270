/-
  calc.begin of a sheet without formulas: its contract. Conditions: the sheet lies in memory, its axes all live; at most twelve cells.
-/
import Derived.Test.YtoicnghjjgkebaaGreatDoorPL1
set_option linter.unusedSectionVars false
set_option linter.unusedSimpArgs false
set_option linter.unusedVariables false
set_option linter.unnecessarySimpa false
namespace Go.Proofs.YtoicnghjjgkebaaGreatDoor
open Go.RowKit Go.Shelf
attribute [local go_sem] Oper.semAt_some
theorem rfreeR {P : Program} {id r n : Nat} {Q : Exit → Act → World → Prop} {a : Act} {w : World} {l : List Oper} {cells : List (Addr × Value)} (order : List Nat) (g : Nat) (hno : ¬ LetsOut Q) (hd : l.all noDefer = true)
    (hB : (P.follows .mixedOrders && l.length == order.length + g && order.all (fun i => decide (i < l.length)) && Region.noSelect l.toArray && headsB l.toArray (Array.replicate l.toArray.size false) order) = true)
    (hQ : ∀ c (d : Tmp) (v : Value) a w, Q (.panic c) (a.put (some d) v) w → Q (.panic c) a w) (hS : AllCells w.drew cells)
    (h : Nonempty (HeldC cells) → (∀ u : HeldC cells, AllCells u.w cells) → wpQuiet P l.toArray (fun w' => ∃ u : HeldC cells, w' = u.w) (fun a' => wpAnyN P .any l.toArray Q (fun w' => AllCells w' cells) (fun _ => true) g (listedAll (Array.replicate l.toArray.size false) order) a' w.drew) (pick l order) a) : (Code.region id l.toArray true).wpIn (Fence.wide.inRound r) n P Q a w := by
  simp only [Bool.and_eq_true, beq_iff_eq] at hB
  obtain ⟨⟨⟨⟨h0, h1⟩, h2⟩, h3⟩, h4⟩ := hB
  obtain ⟨h5, h6⟩ := pick_spec h2
  exact region_free_round cells order g hno hd h0 (by rw [h5, ← h1, List.size_toArray]) h6 h3 h4 hQ hS h
section
variable {own0 : Tags} {w : World} {S pR pC pS pN : Nat} {ids jds : List Id} {own : Tags} {h g Mv Mn Bd M M4 M5 : Nat} {pv fl : List (Id × Value)} {W W' : World}
theorem Bg.chg (H : Bg own0 w S pR pC pS pN ids jds own h g Mv Mn Bd M M4 M5 pv fl W) (ho : own M = 0 ∧ own Mv = 0) (k : Chg (fun j => j ≠ M ∧ j ≠ Mv) W W') {pv' fl' : List (Id × Value)} (hm : MapG idv W' M fl') (hv : MapG idv W' Mv pv') : Bg own0 w S pR pC pS pN ids jds own h g Mv Mn Bd M M4 M5 pv' fl' W' := by
  have hB : ∀ {b : Nat} {t : TypeId} {cs : Array Value}, Blk W b t cs → Blk W' b t cs := fun hb => hb.kept (k.block _ hb.lt ⟨fun e => map_ne H.sp.map hb e.symm, fun e => map_ne H.mv hb e.symm⟩)
  have sm : ∀ t, t ≠ 0 → Same t own W own W' := fun t ht j hj he => ⟨k.block j hj ⟨fun e => by rw [e, ho.1] at he; exact ht he.symm, fun e => by rw [e, ho.2] at he; exact ht he.symm⟩, he⟩
  exact ⟨hB H.sh, ⟨H.ax.r.keep (sm 1 (by decide)), H.ax.c.keep (sm 2 (by decide))⟩, hB H.hb, hB H.gb, ⟨hB H.sp.blk, hm, H.sp.m4.kept (k.block _ H.sp.m4.lt ⟨H.sp.ne.1, fun e => H.ne.2.2.2.1 e.symm⟩), H.sp.m5.kept (k.block _ H.sp.m5.lt ⟨H.sp.ne.2, fun e => H.ne.2.2.2.2 e.symm⟩), H.sp.ne⟩, hv,
    H.mn.kept (k.block _ H.mn.lt ⟨H.ne.2.2.1, fun e => H.ne.1 e.symm⟩), H.ne, H.new, H.ch.trans k (fun j hj e => ⟨fun e2 => by have := H.new.2.2.2.1; omega, fun e2 => by have := H.new.2.2.1; omega⟩)⟩
theorem Bg.stab {b : Nat} (H : Bg own0 w S pR pC pS pN ids jds own h g Mv Mn Bd M M4 M5 pv fl W) (hb : w.heap.size ≤ b) (hf : Fresh own W) (hl : ∀ j, own j ≠ 0 → j < b) (k : KQ CG1 b W W') : Bg own0 w S pR pC pS pN ids jds own h g Mv Mn Bd M M4 M5 pv fl W' := by
  have hB : ∀ {b : Nat} {t : TypeId} {cs : Array Value}, Blk W b t cs → Blk W' b t cs := fun hb => k.kg.keep _ _ hb trivial
  have hM : ∀ {b : Nat} {l : List (Id × Value)}, MapG idv W b l → MapG idv W' b l := fun hm => by obtain ⟨es, c, h1, h2⟩ := hm; exact ⟨es, c, k.kg.keep _ _ h1 trivial, h2⟩
  have sm : ∀ t, t ≠ 0 → Same t own W own W' := fun t ht j hj he => ⟨k.old j (hl j (by rw [he]; exact ht)) hj, he⟩
  exact ⟨hB H.sh, ⟨H.ax.r.keep (sm 1 (by decide)), H.ax.c.keep (sm 2 (by decide))⟩, hB H.hb, hB H.gb, ⟨hB H.sp.blk, hM H.sp.map, hM H.sp.m4, hM H.sp.m5, H.sp.ne⟩, hM H.mv, hM H.mn, H.ne, H.new,
    ⟨k.os.trans H.ch.os, k.tape.trans H.ch.tape, k.output.trans H.ch.output, Nat.le_trans H.ch.size k.kg.size, fun j hj e => (k.old j (by omega) (Nat.lt_of_lt_of_le hj H.ch.size)).trans (H.ch.block j hj e)⟩⟩
end
/-- What each round of the range keeps. -/
structure BgL (own0 : Tags) (w : World) (S pR pC pS pN : Nat) (ids jds : List Id) (own : Tags) (h g Mv Mn Bd M M4 M5 k q M1 M2 mx b : Nat) (pre : List (Cel × Val)) (W : World) : Prop where
  bg : ∃ fl, Bg own0 w S pR pC pS pN ids jds own h g Mv Mn Bd M M4 M5 (pvs ids jds pre) fl W
  kb : Blk W k 124 #[.pointer (some ⟨q, 0, none⟩)]
  qb : Blk W q 130 (rdC S g M1 M2 mx .nilFunc)
  m1 : MapG idv W M1 (spots ids)
  m2 : MapG idv W M2 (spots jds)
  ne : (M1 ≠ M ∧ M1 ≠ Mv) ∧ (M2 ≠ M ∧ M2 ≠ Mv) ∧ (own M = 0 ∧ own Mv = 0) ∧ (M < b ∧ Mv < b)
  sz : b ≤ W.heap.size
  nq : w.heap.size ≤ q
section
variable {own0 : Tags} {w : World} {S pR pC pS pN : Nat} {ids jds : List Id} {own : Tags} {h g Mv Mn Bd M M4 M5 k q M1 M2 mx b : Nat} {pre : List (Cel × Val)} {W W' : World}
theorem BgL.rdm (H : BgL own0 w S pR pC pS pN ids jds own h g Mv Mn Bd M M4 M5 k q M1 M2 mx b pre W) : RdM W q M1 M2 ids jds := ⟨H.qb.cell 3, H.qb.cell 4, H.m1, H.m2⟩
theorem BgL.below (H : BgL own0 w S pR pC pS pN ids jds own h g Mv Mn Bd M M4 M5 k q M1 M2 mx b pre W) (l : Below W.heap.size W W') : BgL own0 w S pR pC pS pN ids jds own h g Mv Mn Bd M M4 M5 k q M1 M2 mx b pre W' := by
  obtain ⟨fl, hf⟩ := H.bg
  exact ⟨⟨fl, hf.below l⟩, H.kb.kept (l.block _ H.kb.lt), H.qb.kept (l.block _ H.qb.lt), H.m1.kept (l.block _ H.m1.lt), H.m2.kept (l.block _ H.m2.lt), H.ne, Nat.le_trans H.sz l.size, H.nq⟩
theorem BgL.chg (H : BgL own0 w S pR pC pS pN ids jds own h g Mv Mn Bd M M4 M5 k q M1 M2 mx b pre W) (l : Chg (fun j => j ≠ M ∧ j ≠ Mv) W W') {pre' : List (Cel × Val)} {fl' : List (Id × Value)} (hm : MapG idv W' M fl') (hv : MapG idv W' Mv (pvs ids jds pre')) : BgL own0 w S pR pC pS pN ids jds own h g Mv Mn Bd M M4 M5 k q M1 M2 mx b pre' W' := by
  obtain ⟨fl, hf⟩ := H.bg
  have hB : ∀ {b : Nat} {t : TypeId} {cs : Array Value}, Blk W b t cs → Blk W' b t cs := fun hb => hb.kept (l.block _ hb.lt ⟨fun e => map_ne hf.sp.map hb e.symm, fun e => map_ne hf.mv hb e.symm⟩)
  exact ⟨⟨fl', hf.chg H.ne.2.2.1 l hm hv⟩, hB H.kb, hB H.qb, H.m1.kept (l.block _ H.m1.lt H.ne.1), H.m2.kept (l.block _ H.m2.lt H.ne.2.1), H.ne, Nat.le_trans H.sz l.size, H.nq⟩
theorem BgL.stab (hb : w.heap.size ≤ b) (hl : ∀ j, own j ≠ 0 → j < b) : Stab CG1 b (BgL own0 w S pR pC pS pN ids jds own h g Mv Mn Bd M M4 M5 k q M1 M2 mx b) := fun s A B H l => by
  obtain ⟨fl, hf⟩ := H.bg
  have hB : ∀ {b : Nat} {t : TypeId} {cs : Array Value}, Blk A b t cs → Blk B b t cs := fun hb => l.kg.keep _ _ hb trivial
  have hM : ∀ {b : Nat} {l : List (Id × Value)}, MapG idv A b l → MapG idv B b l := fun hm => by obtain ⟨es, c, h1, h2⟩ := hm; exact ⟨es, c, l.kg.keep _ _ h1 trivial, h2⟩
  exact ⟨⟨fl, hf.stab hb (fun j hj => Nat.lt_of_lt_of_le (hl j hj) H.sz) hl l⟩, hB H.kb, hB H.qb, hM H.m1, hM H.m2, H.ne, Nat.le_trans H.sz l.kg.size, H.nq⟩
end
theorem keeps_chg {M Mv b : Nat} {W W' : World} (k : Chg (fun j => j ≠ M ∧ j ≠ Mv) W W') (h1 : M < b) (h2 : Mv < b) : KeepsFrom b W W' := ⟨k.size, fun j o hj ho _ => (k.block j (Array.getElem?_eq_some_iff.1 ho).1 ⟨by omega, by omega⟩).trans ho⟩
theorem kg_chg {G : Obj → Prop} (hG : ∀ es c, ¬ G (.map es c)) {M Mv : Nat} {W W' : World} {l l' : List (Id × Value)} (hM : MapG idv W M l) (hV : MapG idv W Mv l') (k : Chg (fun j => j ≠ M ∧ j ≠ Mv) W W') : KG G W W' := ⟨k.size, fun j o hj ho => (k.block j (Array.getElem?_eq_some_iff.1 hj).1 ⟨fun e => by
    subst e
    obtain ⟨es, c, h1, -⟩ := hM
    rw [h1] at hj
    cases hj
    exact hG _ _ ho, fun e => by
    subst e
    obtain ⟨es, c, h1, -⟩ := hV
    rw [h1] at hj
    cases hj
    exact hG _ _ ho⟩).trans hj⟩
def PVP (ids jds : List Id) (kvs : List (Cel × Val)) (pv : List (Id × Value)) : Prop := ∃ xs, xs.Perm (kvs.filter (placed ids jds)) ∧ pv = pvs ids jds xs
theorem setCell_size (w : World) (p : Addr) (v : Value) : (w.setCell p v).heap.size = w.heap.size := by simp [World.setCell]
theorem wp_cut {P : Program} {c : Code} {Q : Exit → Act → World → Prop} {a : Act} {w : World} (K : Act → World → Prop) (h : c.wp P (Exit.then K fun _ _ _ => False) a w) (hq : ∀ a w, K a w → Q .normal a w) : c.wp P Q a w := Code.wp_mono (fun e a w he => by cases e <;> first | exact hq _ _ he | exact he.elim) h
/-- The frame behind the second region. -/
def bg2F (S h g Bd : Nat) (R C : Int) (u10 u11 u12 u13 u14 u15 u16 u17 u18 u19 u20 u21 u22 u23 : Value) : Act := { tmps := #[.pointer (some ⟨S, 0, none⟩), undef, .pointer none, .pointer (some ⟨h, 0, none⟩), undef, undef, undef, undef, undef, undef, u10, u11, u12, u13, u14, u15, u16, u17, u18, u19, u20, u21, u22, u23, .pointer (some ⟨g, 0, none⟩), .pointer (some ⟨g, 0, none⟩), .pointer (some ⟨g, 0, none⟩), .pointer (some ⟨g, 0, none⟩), .int .i64 R, .pointer (some ⟨g, 0, none⟩), .pointer (some ⟨g, 0, none⟩), .pointer (some ⟨g, 1, none⟩), .int .i64 C, .pointer (some ⟨Bd, 0, none⟩), .pointer (some ⟨g, 0, none⟩), .pointer (some ⟨g, 9, none⟩), undef, undef, undef, undef, undef, undef, undef, undef, undef, undef, undef, undef, undef, undef, undef, undef, undef, undef, undef, undef, undef, undef, undef, undef, undef, undef, undef, undef, undef, undef, undef, undef, undef, undef, undef, undef, undef, undef, undef, undef, undef, undef, undef, undef, undef, undef, undef, undef, undef, undef, undef, undef, undef, undef, undef, undef, undef, undef, undef, undef, undef, undef, undef, undef, undef, undef, undef, undef, undef, undef, undef, undef, undef, undef, undef, undef, undef, undef, undef, undef, undef, undef, undef, undef, undef, undef, undef, undef, undef, undef, undef, undef, undef, undef, undef, undef, undef, undef, undef, undef, undef, undef, undef], defers := [] }
def Bg2 (own0 : Tags) (w : World) (S pR pC pS pN : Nat) (ids jds : List Id) (own : Tags) (h g Mv Mn : Nat) (u10 u11 u12 u13 u14 u15 u16 u17 u18 u19 u20 u21 u22 u23 : Value) (a : Act) (W : World) : Prop := ∃ Bd M M4 M5, a = bg2F S h g Bd ids.length jds.length u10 u11 u12 u13 u14 u15 u16 u17 u18 u19 u20 u21 u22 u23 ∧ Bg own0 w S pR pC pS pN ids jds own h g Mv Mn Bd M M4 M5 [] [] W ∧ (w.heap.size ≤ W.heap.size ∧ ∀ j, own j ≠ 0 → j < W.heap.size) ∧ own M = 0 ∧ own Mv = 0
theorem bg_of {own0 : Tags} {w : World} {S pR pC pS pN : Nat} {ids jds : List Id} {own : Tags} {h g Mv Mn Bd M M4 M5 : Nat} {W1 W2 : World} {v : Value} (hh : w.heap.size ≤ h) (hb : Blk W1 h 52 #[.pointer (some ⟨g, 0, none⟩)]) (hr : RB own w W1 ids.length jds.length g Mv Mn) (hi : BgI own0 w pR pC ids jds own W1 ∧ (own S = 0 ∧ ShB W1 S pR pC pS pN)) (hx : AxR W1 own pR pC ids jds) (b : Below W1.heap.size W1 W2) (hm : W1.heap.size ≤ M) (hm4 : W1.heap.size ≤ M4) (hm5 : W1.heap.size ≤ M5) (hbd : w.heap.size ≤ Bd) (hsp : SpB W2 Bd M M4 M5 ids.length jds.length []) (hv : v = .pointer (some ⟨Bd, 0, none⟩)) :
    Bg own0 w S pR pC pS pN ids jds own h g Mv Mn Bd M M4 M5 [] [] (W2.setCell ⟨g, 9, none⟩ v) := by
  obtain ⟨g1, g2, g3, m1, m2, m3⟩ := hr
  have hg2 := g3.kept (b.block _ g3.lt)
  have hW : ∀ j, j ≠ g → (W2.setCell ⟨g, 9, none⟩ v).heap[j]? = W2.heap[j]? := fun j hj => Below.heap_setCell _ _ _ _ hj
  have s1 : Same 1 own W2 own (W2.setCell ⟨g, 9, none⟩ v) := Same.setCell (by show own g ≠ 1; omega) v
  have s2 : Same 2 own W2 own (W2.setCell ⟨g, 9, none⟩ v) := Same.setCell (by show own g ≠ 2; omega) v
  have hsh := hi.2.2.kept (b.block _ hi.2.2.lt)
  have hb2 := hb.kept (b.block _ hb.lt)
  have hx2 := hx.below b
  have q1 := m1.2.2.kept (b.block _ m1.2.2.lt)
  have q2 := m2.2.2.kept (b.block _ m2.2.2.lt)
  have l1 := m1.2.2.lt
  have l2 := m2.2.2.lt
  have hs := hi.1.ch.size
  exact ⟨hsh.kept (hW _ (blk_ne hsh hg2 (by decide))), ⟨hx2.r.keep s1, hx2.c.keep s2⟩, hb2.kept (hW _ (blk_ne hb2 hg2 (by decide))), by rw [hv]; exact hg2.store 9 _,
    ⟨hsp.blk.kept (hW _ (blk_ne hsp.blk hg2 (by decide))), hsp.map.kept (hW _ (map_ne hsp.map hg2)), hsp.m4.kept (hW _ (map_ne hsp.m4 hg2)), hsp.m5.kept (hW _ (map_ne hsp.m5 hg2)), hsp.ne⟩, q1.kept (hW _ (map_ne q1 hg2)), q2.kept (hW _ (map_ne q2 hg2)),
    ⟨m3, by omega, by omega, by omega, by omega⟩, ⟨hh, g1, m1.1, by omega, hbd⟩, (hi.1.ch.next b).set (fun hl => by simp at hl; omega) v⟩
set_option maxRecDepth 100000 in
set_option maxHeartbeats 8000000 in
theorem begin_c (own0 : Tags) (w : World) (S pR pC pS pN : Nat) (ids jds : List Id) (m : Option Nat) (kvs : List (Cel × Val)) (h12 : kvs.length ≤ 12) (h0 : BgI own0 w pR pC ids jds own0 w) (hS : own0 S = 0 ∧ ShB w S pR pC pS pN) (hP : own0 pS = 0 ∧ Blk w pS 116 #[.map m]) (hM : (∀ b, m = some b → own0 b = 0) ∧ StoM w m kvs) :
    Calls Tryz.prog 38 #[.pointer (some ⟨S, 0, none⟩)] w (BegP own0 (PVP ids jds kvs) S ids.length jds.length w) := by
  have HP := Lib.hid hP
  have HM := Lib.hid hM
  have HD0 := Lib.hid (And.intro h0.r (And.intro h0.c h12))
  clear hP hM h12
  refine (callsIn_wide (n := 3)).1 (callsIn_of_wp_marks Tryz.func38 rfl trivial ?_ rfl)
  simp only [Tryz.ntmps38, List.size_toArray, List.length_cons, List.length_nil, Nat.reduceAdd, Nat.reduceSub, Array.replicate_succ, Array.replicate_zero, List.push_toArray, List.append_toArray, List.nil_append, List.cons_append]
  refine wpIn_wide.2 ?_
  go_upto_region 1 with fail
  refine wp_cut (Bg1 own0 w S pR pC pS pN ids jds) ?r1 ?_
  case r1 =>
    refine region_modG (by kernel_rfl) (by kernel_rfl) (bgJ own0 w S pR pC pS pN ids jds) (bgP w S pR pC ids.length jds.length) own0 ?h0 ?hstep ?hfin
    case h0 => exact ⟨undef, undef, undef, undef, undef, undef, undef, undef, undef, undef, undef, undef, undef, undef, undef, rfl, ⟨h0.below (Below.refl _ _).drew, hS.1, hS.2.kept rfl⟩, ⟨fun b e => (by cases e), fun b e => (by cases e)⟩⟩
    case hstep =>
      clear h0 hS
      rintro i o ho own a W ⟨v3, v10, v11, v12, v13, v14, v15, v16, v17, v18, v19, v20, v21, v22, v23, rfl, HI, HD⟩ hd
      rcases i with _ | i
      · skip
        simp only [List.getElem?_cons_succ, List.getElem?_cons_zero, Option.some.injEq] at ho
        subst ho
        unfold bgF
        go_wp2_with fail
        exact ⟨own, ⟨_, _, _, _, _, _, _, _, _, _, _, _, _, _, _, rfl, HI, HD⟩, rfl, fun j hj hd h => by rcases j with _ | _ | _ | _ | _ | _ | _ | _ | _ | _ | _ | _ | _ | _ | _ | _ | j <;> first | exact absurd rfl hj | exact h⟩
      rcases i with _ | i
      · skip
        simp only [List.getElem?_cons_succ, List.getElem?_cons_zero, Option.some.injEq] at ho
        subst ho
        obtain rfl : v10 = .pointer (some ⟨S, 0, none⟩) := hd ⟨0, .data⟩ (by simp) rfl
        unfold bgF
        go_wp2_with fail
        exact ⟨own, ⟨_, _, _, _, _, _, _, _, _, _, _, _, _, _, _, rfl, HI, HD⟩, rfl, fun j hj hd h => by rcases j with _ | _ | _ | _ | _ | _ | _ | _ | _ | _ | _ | _ | _ | _ | _ | _ | j <;> first | exact absurd rfl hj | exact h⟩
      rcases i with _ | i
      · skip
        simp only [List.getElem?_cons_succ, List.getElem?_cons_zero, Option.some.injEq] at ho
        subst ho
        obtain rfl : v11 = .pointer (some ⟨S, 0, none⟩) := hd ⟨1, .data⟩ (by simp) rfl
        unfold bgF
        go_wp2_with fail
        exact ⟨own, ⟨_, _, _, _, _, _, _, _, _, _, _, _, _, _, _, rfl, HI, HD⟩, rfl, fun j hj hd h => by rcases j with _ | _ | _ | _ | _ | _ | _ | _ | _ | _ | _ | _ | _ | _ | _ | _ | j <;> first | exact absurd rfl hj | exact h⟩
      rcases i with _ | i
      · skip
        simp only [List.getElem?_cons_succ, List.getElem?_cons_zero, Option.some.injEq] at ho
        subst ho
        obtain rfl : v12 = .pointer (some ⟨S, 0, none⟩) := hd ⟨2, .data⟩ (by simp) rfl
        have e0 := HI.2.2.cell 0
        have e1 := HI.2.2.cell 1
        simp only [List.getElem?_toArray, List.getElem?_cons_zero, List.getElem?_cons_succ] at e0 e1
        unfold bgF
        go_wp2_with fail
        exact ⟨own, ⟨_, _, _, _, _, _, _, _, _, _, _, _, _, _, _, rfl, HI, HD⟩, rfl, fun j hj hd h => by rcases j with _ | _ | _ | _ | _ | _ | _ | _ | _ | _ | _ | _ | _ | _ | _ | _ | j <;> first | exact absurd rfl hj | exact h⟩
      rcases i with _ | i
      · skip
        simp only [List.getElem?_cons_succ, List.getElem?_cons_zero, Option.some.injEq] at ho
        subst ho
        obtain rfl : v13 = .pointer (some ⟨pR, 0, none⟩) := hd ⟨3, .data⟩ (by simp) rfl
        have HL0 := len_c W own 1 pR _ _ HI.1.r
        rw [aliveOf_all] at HL0
        have HL := Lib.hid HL0
        have HH := Lib.hid (And.intro HI HD)
        clear HI HD HL0
        unfold bgF
        go_wp2_with fail
        refine HL.out.mono ?_
        rintro _ W2 ⟨rfl, own', tr, a2, r2⟩
        obtain ⟨HI, HD⟩ := HH.out
        have HI2 : BgI own0 w pR pC ids jds own' W2 ∧ (own' S = 0 ∧ ShB W2 S pR pC pS pN) := ⟨HI.1.row tr a2, (tr.same S HI.2.2.lt).trans HI.2.1, HI.2.2.kept (tr.block S HI.2.2.lt (by rw [HI.2.1]; decide))⟩
        have ho : own pC ≠ 1 := by rw [HI.1.c.tagp.1]; decide
        go_wp2_with fail
        exact ⟨own', ⟨_, _, _, _, _, _, _, _, _, _, _, _, _, _, _, rfl, HI2, HD.mono tr.size⟩, ⟨rfl, Rdy.of r2⟩, fun j hj hd h => by rcases j with _ | _ | _ | _ | _ | _ | _ | _ | _ | _ | _ | _ | _ | _ | _ | _ | j <;> first | exact absurd rfl hj | exact bgP_keep h (tr.toSame (by decide)) (fun e _ => absurd e (by omega)) (fun _ r => r.tr tr ho)⟩
      rcases i with _ | i
      · skip
        simp only [List.getElem?_cons_succ, List.getElem?_cons_zero, Option.some.injEq] at ho
        subst ho
        unfold bgF
        go_wp2_with fail
        exact ⟨own, ⟨_, _, _, _, _, _, _, _, _, _, _, _, _, _, _, rfl, HI, HD⟩, rfl, fun j hj hd h => by rcases j with _ | _ | _ | _ | _ | _ | _ | _ | _ | _ | _ | _ | _ | _ | _ | _ | j <;> first | exact absurd rfl hj | exact h⟩
      rcases i with _ | i
      · skip
        simp only [List.getElem?_cons_succ, List.getElem?_cons_zero, Option.some.injEq] at ho
        subst ho
        obtain rfl : v15 = .pointer (some ⟨S, 0, none⟩) := hd ⟨5, .data⟩ (by simp) rfl
        unfold bgF
        go_wp2_with fail
        exact ⟨own, ⟨_, _, _, _, _, _, _, _, _, _, _, _, _, _, _, rfl, HI, HD⟩, rfl, fun j hj hd h => by rcases j with _ | _ | _ | _ | _ | _ | _ | _ | _ | _ | _ | _ | _ | _ | _ | _ | j <;> first | exact absurd rfl hj | exact h⟩
      rcases i with _ | i
      · skip
        simp only [List.getElem?_cons_succ, List.getElem?_cons_zero, Option.some.injEq] at ho
        subst ho
        obtain rfl : v16 = .pointer (some ⟨S, 0, none⟩) := hd ⟨6, .data⟩ (by simp) rfl
        unfold bgF
        go_wp2_with fail
        exact ⟨own, ⟨_, _, _, _, _, _, _, _, _, _, _, _, _, _, _, rfl, HI, HD⟩, rfl, fun j hj hd h => by rcases j with _ | _ | _ | _ | _ | _ | _ | _ | _ | _ | _ | _ | _ | _ | _ | _ | j <;> first | exact absurd rfl hj | exact h⟩
      rcases i with _ | i
      · skip
        simp only [List.getElem?_cons_succ, List.getElem?_cons_zero, Option.some.injEq] at ho
        subst ho
        obtain rfl : v17 = .pointer (some ⟨S, 1, none⟩) := hd ⟨7, .data⟩ (by simp) rfl
        have e0 := HI.2.2.cell 0
        have e1 := HI.2.2.cell 1
        simp only [List.getElem?_toArray, List.getElem?_cons_zero, List.getElem?_cons_succ] at e0 e1
        unfold bgF
        go_wp2_with fail
        exact ⟨own, ⟨_, _, _, _, _, _, _, _, _, _, _, _, _, _, _, rfl, HI, HD⟩, rfl, fun j hj hd h => by rcases j with _ | _ | _ | _ | _ | _ | _ | _ | _ | _ | _ | _ | _ | _ | _ | _ | j <;> first | exact absurd rfl hj | exact h⟩
      rcases i with _ | i
      · skip
        simp only [List.getElem?_cons_succ, List.getElem?_cons_zero, Option.some.injEq] at ho
        subst ho
        obtain rfl : v18 = .pointer (some ⟨pC, 0, none⟩) := hd ⟨8, .data⟩ (by simp) rfl
        have HL0 := len_c W own 2 pC _ _ HI.1.c
        rw [aliveOf_all] at HL0
        have HL := Lib.hid HL0
        have HH := Lib.hid (And.intro HI HD)
        clear HI HD HL0
        unfold bgF
        go_wp2_with fail
        refine HL.out.mono ?_
        rintro _ W2 ⟨rfl, own', tr, a2, r2⟩
        obtain ⟨HI, HD⟩ := HH.out
        have HI2 : BgI own0 w pR pC ids jds own' W2 ∧ (own' S = 0 ∧ ShB W2 S pR pC pS pN) := ⟨HI.1.col tr a2, (tr.same S HI.2.2.lt).trans HI.2.1, HI.2.2.kept (tr.block S HI.2.2.lt (by rw [HI.2.1]; decide))⟩
        have ho : own pR ≠ 2 := by rw [HI.1.r.tagp.1]; decide
        go_wp2_with fail
        exact ⟨own', ⟨_, _, _, _, _, _, _, _, _, _, _, _, _, _, _, rfl, HI2, HD.mono tr.size⟩, ⟨rfl, Rdy.of r2⟩, fun j hj hd h => by rcases j with _ | _ | _ | _ | _ | _ | _ | _ | _ | _ | _ | _ | _ | _ | _ | _ | j <;> first | exact absurd rfl hj | exact bgP_keep h (tr.toSame (by decide)) (fun _ r => r.tr tr ho) (fun e _ => absurd e (by omega))⟩
      rcases i with _ | i
      · skip
        simp only [List.getElem?_cons_succ, List.getElem?_cons_zero, Option.some.injEq] at ho
        subst ho
        have bl : Below W.heap.size W (W.alloc (.map #[] 0)) := (Below.refl _ _).alloc (Nat.le_refl _) _
        have hz : own W.heap.size = 0 := HI.1.f.new (Nat.le_refl _)
        have hs : w.heap.size ≤ W.heap.size := HI.1.ch.size
        have HI2 : BgI own0 w pR pC ids jds own _ ∧ (own S = 0 ∧ ShB _ S pR pC pS pN) := ⟨HI.1.below bl, HI.2.1, HI.2.2.kept (bl.block _ HI.2.2.lt)⟩
        clear HI
        have HD2 : bgD (.map (some W.heap.size)) v21 (W.alloc (.map #[] 0)) := ⟨fun b e => by cases e; exact ⟨by simp, fun e2 => by have := HD.2 _ e2; omega⟩, fun b e => Nat.lt_of_lt_of_le (HD.2 b e) bl.size⟩
        unfold bgF
        go_wp2_with fail
        exact ⟨own, ⟨_, _, _, _, _, _, _, _, _, _, _, _, _, _, _, rfl, HI2, HD2⟩, ⟨_, rfl, hs, hz, MapG.made (enc := idv) W⟩, fun j hj hd h => by rcases j with _ | _ | _ | _ | _ | _ | _ | _ | _ | _ | _ | _ | _ | _ | _ | _ | j <;> first | exact absurd rfl hj | exact bgP_below h bl⟩
      rcases i with _ | i
      · skip
        simp only [List.getElem?_cons_succ, List.getElem?_cons_zero, Option.some.injEq] at ho
        subst ho
        have bl : Below W.heap.size W (W.alloc (.map #[] 0)) := (Below.refl _ _).alloc (Nat.le_refl _) _
        have hz : own W.heap.size = 0 := HI.1.f.new (Nat.le_refl _)
        have hs : w.heap.size ≤ W.heap.size := HI.1.ch.size
        have HI2 : BgI own0 w pR pC ids jds own _ ∧ (own S = 0 ∧ ShB _ S pR pC pS pN) := ⟨HI.1.below bl, HI.2.1, HI.2.2.kept (bl.block _ HI.2.2.lt)⟩
        clear HI
        have HD2 : bgD v20 (.map (some W.heap.size)) (W.alloc (.map #[] 0)) := ⟨fun b e => ⟨Nat.lt_of_lt_of_le (HD.1 b e).1 bl.size, fun e2 => by cases e2; have := (HD.1 _ e).1; omega⟩, fun b e => by cases e; simp⟩
        unfold bgF
        go_wp2_with fail
        exact ⟨own, ⟨_, _, _, _, _, _, _, _, _, _, _, _, _, _, _, rfl, HI2, HD2⟩, ⟨_, rfl, hs, hz, MapG.made (enc := idv) W⟩, fun j hj hd h => by rcases j with _ | _ | _ | _ | _ | _ | _ | _ | _ | _ | _ | _ | _ | _ | _ | _ | j <;> first | exact absurd rfl hj | exact bgP_below h bl⟩
      rcases i with _ | i
      · skip
        simp only [List.getElem?_cons_succ, List.getElem?_cons_zero, Option.some.injEq] at ho
        subst ho
        obtain ⟨p4, -⟩ : v14 = .int .i64 ids.length ∧ _ := hd ⟨4, .data⟩ (by simp) rfl
        obtain ⟨p9, -⟩ : v19 = .int .i64 jds.length ∧ _ := hd ⟨9, .data⟩ (by simp) rfl
        obtain ⟨b1, p10, m1⟩ : ∃ b, v20 = .map (some b) ∧ MB own w W b := hd ⟨10, .data⟩ (by simp) rfl
        obtain ⟨b2, p11, m2⟩ : ∃ b, v21 = .map (some b) ∧ MB own w W b := hd ⟨11, .data⟩ (by simp) rfl
        subst p4 p9 p10 p11
        have hne : b1 ≠ b2 := fun e => (HD.1 b1 rfl).2 (by rw [e])
        unfold bgF
        go_wp2_with fail
        exact ⟨own, ⟨_, _, _, _, _, _, _, _, _, _, _, _, _, _, _, rfl, HI, HD⟩, ⟨b1, b2, rfl, m1, m2, hne⟩, fun j hj hd h => by rcases j with _ | _ | _ | _ | _ | _ | _ | _ | _ | _ | _ | _ | _ | _ | _ | _ | j <;> first | exact absurd rfl hj | exact h⟩
      rcases i with _ | i
      · skip
        simp only [List.getElem?_cons_succ, List.getElem?_cons_zero, Option.some.injEq] at ho
        subst ho
        obtain ⟨b1, b2, p, m1, m2, hne⟩ : ∃ b1 b2, v22 = .agg (resC ids.length jds.length b1 b2 (.slice none 0 0) (.slice none 0 0) (.pointer none) (.pointer none) 0) ∧ MB own w W b1 ∧ MB own w W b2 ∧ b1 ≠ b2 := hd ⟨12, .data⟩ (by simp) rfl
        subst p
        have bl : Below W.heap.size W (W.alloc (.cells (resC ids.length jds.length b1 b2 (.slice none 0 0) (.slice none 0 0) (.pointer none) (.pointer none) 0) 104)) := (Below.refl _ _).alloc (Nat.le_refl _) _
        have hz : own W.heap.size = 0 := HI.1.f.new (Nat.le_refl _)
        have hs : w.heap.size ≤ W.heap.size := HI.1.ch.size
        have HI2 : BgI own0 w pR pC ids jds own _ ∧ (own S = 0 ∧ ShB _ S pR pC pS pN) := ⟨HI.1.below bl, HI.2.1, HI.2.2.kept (bl.block _ HI.2.2.lt)⟩
        clear HI
        have HRB := Lib.hid (show RB own w _ ids.length jds.length W.heap.size b1 b2 from ⟨hs, hz, Blk.new W _ _, m1.keep (Same.below bl), m2.keep (Same.below bl), hne⟩)
        unfold bgF
        go_wp2_with fail
        exact ⟨own, ⟨_, _, _, _, _, _, _, _, _, _, _, _, _, _, _, rfl, HI2, HD.mono bl.size⟩, ⟨_, b1, b2, rfl, HRB.out⟩, fun j hj hd h => by rcases j with _ | _ | _ | _ | _ | _ | _ | _ | _ | _ | _ | _ | _ | _ | _ | _ | j <;> first | exact absurd rfl hj | exact bgP_below h bl⟩
      rcases i with _ | i
      · skip
        simp only [List.getElem?_cons_succ, List.getElem?_cons_zero, Option.some.injEq] at ho
        subst ho
        have bl : Below W.heap.size W (W.alloc (.cells #[.pointer none] 52)) := (Below.refl _ _).alloc (Nat.le_refl _) _
        have hz : own W.heap.size = 0 := HI.1.f.new (Nat.le_refl _)
        have hs : w.heap.size ≤ W.heap.size := HI.1.ch.size
        have HI2 : BgI own0 w pR pC ids jds own _ ∧ (own S = 0 ∧ ShB _ S pR pC pS pN) := ⟨HI.1.below bl, HI.2.1, HI.2.2.kept (bl.block _ HI.2.2.lt)⟩
        clear HI
        unfold bgF
        go_wp2_with fail
        exact ⟨own, ⟨_, _, _, _, _, _, _, _, _, _, _, _, _, _, _, rfl, HI2, HD.mono bl.size⟩, ⟨_, _, rfl, ⟨hs, hz⟩, Blk.new W _ _⟩, fun j hj hd h => by rcases j with _ | _ | _ | _ | _ | _ | _ | _ | _ | _ | _ | _ | _ | _ | _ | _ | j <;> first | exact absurd rfl hj | exact bgP_below h bl | exact absurd rfl (hd _ rfl ⟨14, .data⟩ (by simp) rfl)⟩
      rcases i with _ | i
      · skip
        simp only [List.getElem?_cons_succ, List.getElem?_cons_zero, Option.some.injEq] at ho
        subst ho
        obtain ⟨h, x, p, ⟨h1, h2⟩, hx⟩ : ∃ h v, v3 = .pointer (some ⟨h, 0, none⟩) ∧ (w.heap.size ≤ h ∧ own h = 0) ∧ Blk W h 52 #[v] := hd ⟨14, .data⟩ (by simp) rfl
        obtain ⟨g, b1, b2, p2, m⟩ : ∃ g b1 b2, v23 = .pointer (some ⟨g, 0, none⟩) ∧ RB own w W ids.length jds.length g b1 b2 := hd ⟨13, .data⟩ (by simp) rfl
        subst p p2
        have d0 := hx.cell 0
        have f0 := hx.frozen 0
        simp only [List.getElem?_toArray, List.getElem?_cons_zero] at d0
        have n1 : pR ≠ h := fun e => by have := HI.1.r.tagp.1; rw [e, h2] at this; cases this
        have n2 : pC ≠ h := fun e => by have := HI.1.c.tagp.1; rw [e, h2] at this; cases this
        have HI2 : BgI own0 w pR pC ids jds own (W.setCell ⟨h, 0, none⟩ (.pointer (some ⟨g, 0, none⟩))) ∧ (own S = 0 ∧ ShB (W.setCell ⟨h, 0, none⟩ (.pointer (some ⟨g, 0, none⟩))) S pR pC pS pN) := ⟨HI.1.set h2 h1 0 _, HI.2.1, HI.2.2.kept (Below.heap_setCell _ _ _ _ (blk_ne HI.2.2 hx (by decide)))⟩
        have HX := Lib.hid (And.intro hx (And.intro n1 n2))
        have HF := Lib.hid (show Blk (W.setCell ⟨h, 0, none⟩ (.pointer (some ⟨g, 0, none⟩))) h 52 #[.pointer (some ⟨g, 0, none⟩)] from hx.store 0 _)
        have HM := Lib.hid (show RB own w (W.setCell ⟨h, 0, none⟩ (.pointer (some ⟨g, 0, none⟩))) ids.length jds.length g b1 b2 from m.set hx (by decide) _)
        clear HI hx m n1 n2
        unfold bgF
        go_wp2_with fail
        exact ⟨own, ⟨_, _, _, _, _, _, _, _, _, _, _, _, _, _, _, rfl, HI2, HD.mono (by simp [World.setCell])⟩, ⟨h, g, b1, b2, rfl, ⟨h1, h2⟩, HF.out, HM.out⟩, fun j hj hd h => by rcases j with _ | _ | _ | _ | _ | _ | _ | _ | _ | _ | _ | _ | _ | _ | _ | _ | j <;> first | exact absurd rfl hj | exact bgP_set h (by omega) HX.out.1 HX.out.2.1 HX.out.2.2⟩
      simp at ho
    case hfin =>
      rintro own a W ⟨v3, v10, v11, v12, v13, v14, v15, v16, v17, v18, v19, v20, v21, v22, v23, rfl, HI, HD⟩ hP
      obtain ⟨h, g, b1, b2, p1, p2, p3, p4⟩ : ∃ h g b1 b2, v3 = .pointer (some ⟨h, 0, none⟩) ∧ (w.heap.size ≤ h ∧ own h = 0) ∧ Blk W h 52 #[.pointer (some ⟨g, 0, none⟩)] ∧ RB own w W ids.length jds.length g b1 b2 := hP 15 (by simp)
      have r4 : Rdy W pR := (hP 4 (by simp)).2
      have r9 : Rdy W pC := (hP 9 (by simp)).2
      subst p1
      exact ⟨own, h, g, b1, b2, _, _, _, _, _, _, _, _, _, _, _, _, _, _, rfl, p2, p3, p4, HI, ⟨Rdy.ready HI.1.r r4, Rdy.ready HI.1.c r9⟩⟩
  rintro a W1 ⟨own, h, g, Mv, Mn, u10, u11, u12, u13, u14, u15, u16, u17, u18, u19, u20, u21, u22, u23, rfl, hh, hb, hr, hi, hx⟩
  unfold bgF
  have C0 : AllCells W1.drew [(⟨h, 0, none⟩, .pointer (some ⟨g, 0, none⟩)), (⟨g, 0, none⟩, .int .i64 ids.length), (⟨g, 1, none⟩, .int .i64 jds.length)] := ⟨hb.cell 0, hr.2.2.1.cell 0, hr.2.2.1.cell 1, trivial⟩
  have HH := Lib.hid (And.intro hh (And.intro hb (And.intro hr (And.intro hi hx))))
  have HSN := Lib.hid (spillnew_c W1.drew ids.length jds.length hi.1.r.le hi.1.c.le)
  clear hh hb hr hi hx h0 hS
  go_upto_region 2 with fail
  refine wp_cut (Bg2 own0 w S pR pC pS pN ids jds own h g Mv Mn u10 u11 u12 u13 u14 u15 u16 u17 u18 u19 u20 u21 u22 u23) ?r2 ?_
  case r2 =>
   refine rpick [0, 1, 2, 3, 4, 5, 6, 7, 8] [0, 1, 2, 3, 4, 5, 6, 7, 8, 9, 10, 11] 4 (by kernel_rfl) (fun _ _ _ _ _ h => h) C0 ?_
   intro hne hu; try simp only [AllCells] at hu
   simp only [pick, pk]
   repeat (go_big_quiet_step (fail))
   refine wpQuiet_nil ?_; clear hne hu
   refine anyN_oneL 9 (by kernel_rfl) ?_; simp only [pk]
   go_wp2_with fail
   refine HSN.out.mono ?_
   rintro _ W2 ⟨Bd, M, M4, M5, rfl, ⟨hm, hm4, hm5⟩, hbd, hsp, b2⟩
   have C1 := AllCells.below C0 b2
   obtain ⟨hh, hb, hr, hi, hx⟩ := HH.out
   have b3 : Below W1.heap.size W1 W2 := (Below.refl _ W1).drew.trans b2
   have hg2 := hr.2.2.1.kept (b3.block _ hr.2.2.1.lt)
   have d9 := hg2.cell 9
   have f9 := hg2.frozen 9
   simp only [resC, List.getElem?_toArray, List.getElem?_cons_zero, List.getElem?_cons_succ] at d9
   have HBG := Lib.hid (bg_of (v := .pointer (some ⟨Bd, 0, none⟩)) hh.1 hb hr hi hx b3 hm hm4 hm5 (Nat.le_trans hi.1.ch.size hbd) hsp rfl)
   have HFR := Lib.hid (show (w.heap.size ≤ (W2.setCell ⟨g, 9, none⟩ (.pointer (some ⟨Bd, 0, none⟩))).heap.size ∧ ∀ j, own j ≠ 0 → j < (W2.setCell ⟨g, 9, none⟩ (.pointer (some ⟨Bd, 0, none⟩))).heap.size) ∧ own M = 0 ∧ own Mv = 0 from by
     refine ⟨⟨by rw [setCell_size]; exact Nat.le_trans hi.1.ch.size b3.size, fun j hj => by rw [setCell_size]; exact Nat.lt_of_lt_of_le (hi.1.f j hj) b3.size⟩, ?_, hr.2.2.2.1.2.1⟩
     rcases Nat.eq_zero_or_pos (own M) with e | e
     · exact e
     · have h1 := hi.1.f M (by omega)
       have h2 : W1.heap.size ≤ M := hm
       omega)
   clear hh hb hr hi hx b3 hg2 hsp hm hm4 hm5 hbd b2 HSN C0
   go_wp2_with fail
   first | refine And.intro (fun _ => C1) ?_ | refine And.intro C1 ?_ | skip
   refine anyN_oneL 10 (by kernel_rfl) ?_; simp only [pk]
   go_wp2_with fail
   first | refine And.intro (fun _ => C1) ?_ | refine And.intro C1 ?_ | skip
   refine anyN_oneL 11 (by kernel_rfl) ?_; simp only [pk]
   go_wp2_with fail
   first | refine And.intro (fun _ => C1) ?_ | refine And.intro C1 ?_ | skip
   refine anyN_oneL 12 (by kernel_rfl) ?_; simp only [pk]
   go_wp2_with fail
   first | refine And.intro (fun h => by cases h) ⟨by kernel_rfl, ?_⟩ | refine ⟨by kernel_rfl, ?_⟩
   exact ⟨Bd, M, M4, M5, rfl, HBG.out, HFR.out⟩
  clear HH HSN C0
  rintro a W3 ⟨Bd, M, M4, M5, rfl, hbg, hfr⟩
  have HBG := Lib.hid hbg
  have HFR := Lib.hid hfr
  clear hbg hfr
  have HA := Lib.hid (And.intro (fun W (hx : AxR W own pR pC ids jds) => Ready.at_ HD0.out.1 hx.r) (fun W (hx : AxR W own pR pC ids jds) => Ready.at_ HD0.out.2.1 hx.c))
  have HN := Lib.hid HFR.out.1
  unfold bg2F
  go_upto_region 3 with fail
  refine wp_cut (Bg3 W3 own0 w S pR pC pS pN ids jds own h g Mv Mn Bd M M4 M5 u10 u11 u12 u13 u14 u15 u16 u17 u18 u19 u20 u21 u22 u23) ?r3 ?_
  case r3 =>
    refine region_modG (by kernel_rfl) (by kernel_rfl) (b3I W3 own0 w S pR pC pS pN ids jds own h g Mv Mn Bd M M4 M5 u10 u11 u12 u13 u14 u15 u16 u17 u18 u19 u20 u21 u22 u23) (b3P W3 S pR pC g ids jds) () ?h0 ?hstep ?hfin
    case h0 => exact ⟨undef, undef, undef, undef, undef, undef, undef, undef, undef, undef, undef, undef, undef, undef, undef, undef, rfl, Nat.le_refl _, HBG.out.below (Below.refl _ _).drew⟩
    case hstep =>
      clear HBG
      rintro i o ho _ a W ⟨v4, v36, v37, v38, v39, v40, v41, v42, v43, v44, v45, v46, v47, v48, v49, v50, rfl, HI⟩ hd
      rcases i with _ | i
      · skip
        simp only [List.getElem?_cons_succ, List.getElem?_cons_zero, Option.some.injEq] at ho
        subst ho
        unfold b3F
        go_wp2_with fail
        exact ⟨(), ⟨_, _, _, _, _, _, _, _, _, _, _, _, _, _, _, _, rfl, HI⟩, rfl, fun j hj hd h => by rcases j with _ | _ | _ | _ | _ | _ | _ | _ | _ | _ | _ | _ | _ | _ | _ | _ | _ | j <;> first | exact absurd rfl hj | exact h⟩
      rcases i with _ | i
      · skip
        simp only [List.getElem?_cons_succ, List.getElem?_cons_zero, Option.some.injEq] at ho
        subst ho
        have e0 := HI.2.hb.cell 0
        simp only [List.getElem?_toArray, List.getElem?_cons_zero] at e0
        unfold b3F
        go_wp2_with fail
        exact ⟨(), ⟨_, _, _, _, _, _, _, _, _, _, _, _, _, _, _, _, rfl, HI⟩, rfl, fun j hj hd h => by rcases j with _ | _ | _ | _ | _ | _ | _ | _ | _ | _ | _ | _ | _ | _ | _ | _ | _ | j <;> first | exact absurd rfl hj | exact h⟩
      rcases i with _ | i
      · skip
        simp only [List.getElem?_cons_succ, List.getElem?_cons_zero, Option.some.injEq] at ho
        subst ho
        unfold b3F
        go_wp2_with fail
        exact ⟨(), ⟨_, _, _, _, _, _, _, _, _, _, _, _, _, _, _, _, rfl, HI⟩, rfl, fun j hj hd h => by rcases j with _ | _ | _ | _ | _ | _ | _ | _ | _ | _ | _ | _ | _ | _ | _ | _ | _ | j <;> first | exact absurd rfl hj | exact h⟩
      rcases i with _ | i
      · skip
        simp only [List.getElem?_cons_succ, List.getElem?_cons_zero, Option.some.injEq] at ho
        subst ho
        obtain rfl : v38 = .pointer (some ⟨S, 0, none⟩) := hd ⟨2, .data⟩ (by simp) rfl
        unfold b3F
        go_wp2_with fail
        exact ⟨(), ⟨_, _, _, _, _, _, _, _, _, _, _, _, _, _, _, _, rfl, HI⟩, rfl, fun j hj hd h => by rcases j with _ | _ | _ | _ | _ | _ | _ | _ | _ | _ | _ | _ | _ | _ | _ | _ | _ | j <;> first | exact absurd rfl hj | exact h⟩
      rcases i with _ | i
      · skip
        simp only [List.getElem?_cons_succ, List.getElem?_cons_zero, Option.some.injEq] at ho
        subst ho
        obtain rfl : v39 = .pointer (some ⟨S, 0, none⟩) := hd ⟨3, .data⟩ (by simp) rfl
        unfold b3F
        go_wp2_with fail
        exact ⟨(), ⟨_, _, _, _, _, _, _, _, _, _, _, _, _, _, _, _, rfl, HI⟩, rfl, fun j hj hd h => by rcases j with _ | _ | _ | _ | _ | _ | _ | _ | _ | _ | _ | _ | _ | _ | _ | _ | _ | j <;> first | exact absurd rfl hj | exact h⟩
      rcases i with _ | i
      · skip
        simp only [List.getElem?_cons_succ, List.getElem?_cons_zero, Option.some.injEq] at ho
        subst ho
        obtain rfl : v40 = .pointer (some ⟨S, 0, none⟩) := hd ⟨4, .data⟩ (by simp) rfl
        have e0 := HI.2.sh.cell 0
        have e1 := HI.2.sh.cell 1
        simp only [List.getElem?_toArray, List.getElem?_cons_zero, List.getElem?_cons_succ] at e0 e1
        unfold b3F
        go_wp2_with fail
        exact ⟨(), ⟨_, _, _, _, _, _, _, _, _, _, _, _, _, _, _, _, rfl, HI⟩, rfl, fun j hj hd h => by rcases j with _ | _ | _ | _ | _ | _ | _ | _ | _ | _ | _ | _ | _ | _ | _ | _ | _ | j <;> first | exact absurd rfl hj | exact h⟩
      rcases i with _ | i
      · skip
        simp only [List.getElem?_cons_succ, List.getElem?_cons_zero, Option.some.injEq] at ho
        subst ho
        obtain rfl : v41 = .pointer (some ⟨pR, 0, none⟩) := hd ⟨5, .data⟩ (by simp) rfl
        have HL := Lib.hid (places_c W own 1 pR ids (HA.out.1 W HI.2.ax))
        have HH := Lib.hid HI
        clear HI hd
        unfold b3F
        go_wp2_with fail
        refine HL.out.mono ?_
        rintro _ W2 ⟨b, rfl, hb1, hb2, bl⟩
        have HI := HH.out
        have HI2 := And.intro (Nat.le_trans HI.1 bl.size) (HI.2.below bl)
        go_wp2_with fail
        exact ⟨(), ⟨_, _, _, _, _, _, _, _, _, _, _, _, _, _, _, _, rfl, HI2⟩, ⟨b, rfl, Nat.le_trans HI.1 hb1, hb2⟩, fun j hj hd h => by rcases j with _ | _ | _ | _ | _ | _ | _ | _ | _ | _ | _ | _ | _ | _ | _ | _ | _ | j <;> first | exact absurd rfl hj | exact b3P_below h bl⟩
      rcases i with _ | i
      · skip
        simp only [List.getElem?_cons_succ, List.getElem?_cons_zero, Option.some.injEq] at ho
        subst ho
        unfold b3F
        go_wp2_with fail
        exact ⟨(), ⟨_, _, _, _, _, _, _, _, _, _, _, _, _, _, _, _, rfl, HI⟩, rfl, fun j hj hd h => by rcases j with _ | _ | _ | _ | _ | _ | _ | _ | _ | _ | _ | _ | _ | _ | _ | _ | _ | j <;> first | exact absurd rfl hj | exact h⟩
      rcases i with _ | i
      · skip
        simp only [List.getElem?_cons_succ, List.getElem?_cons_zero, Option.some.injEq] at ho
        subst ho
        obtain rfl : v43 = .pointer (some ⟨S, 0, none⟩) := hd ⟨7, .data⟩ (by simp) rfl
        unfold b3F
        go_wp2_with fail
        exact ⟨(), ⟨_, _, _, _, _, _, _, _, _, _, _, _, _, _, _, _, rfl, HI⟩, rfl, fun j hj hd h => by rcases j with _ | _ | _ | _ | _ | _ | _ | _ | _ | _ | _ | _ | _ | _ | _ | _ | _ | j <;> first | exact absurd rfl hj | exact h⟩
      rcases i with _ | i
      · skip
        simp only [List.getElem?_cons_succ, List.getElem?_cons_zero, Option.some.injEq] at ho
        subst ho
        obtain rfl : v44 = .pointer (some ⟨S, 0, none⟩) := hd ⟨8, .data⟩ (by simp) rfl
        unfold b3F
        go_wp2_with fail
        exact ⟨(), ⟨_, _, _, _, _, _, _, _, _, _, _, _, _, _, _, _, rfl, HI⟩, rfl, fun j hj hd h => by rcases j with _ | _ | _ | _ | _ | _ | _ | _ | _ | _ | _ | _ | _ | _ | _ | _ | _ | j <;> first | exact absurd rfl hj | exact h⟩
      rcases i with _ | i
      · skip
        simp only [List.getElem?_cons_succ, List.getElem?_cons_zero, Option.some.injEq] at ho
        subst ho
        obtain rfl : v45 = .pointer (some ⟨S, 1, none⟩) := hd ⟨9, .data⟩ (by simp) rfl
        have e0 := HI.2.sh.cell 0
        have e1 := HI.2.sh.cell 1
        simp only [List.getElem?_toArray, List.getElem?_cons_zero, List.getElem?_cons_succ] at e0 e1
        unfold b3F
        go_wp2_with fail
        exact ⟨(), ⟨_, _, _, _, _, _, _, _, _, _, _, _, _, _, _, _, rfl, HI⟩, rfl, fun j hj hd h => by rcases j with _ | _ | _ | _ | _ | _ | _ | _ | _ | _ | _ | _ | _ | _ | _ | _ | _ | j <;> first | exact absurd rfl hj | exact h⟩
      rcases i with _ | i
      · skip
        simp only [List.getElem?_cons_succ, List.getElem?_cons_zero, Option.some.injEq] at ho
        subst ho
        obtain rfl : v46 = .pointer (some ⟨pC, 0, none⟩) := hd ⟨10, .data⟩ (by simp) rfl
        have HL := Lib.hid (places_c W own 2 pC jds (HA.out.2 W HI.2.ax))
        have HH := Lib.hid HI
        clear HI hd
        unfold b3F
        go_wp2_with fail
        refine HL.out.mono ?_
        rintro _ W2 ⟨b, rfl, hb1, hb2, bl⟩
        have HI := HH.out
        have HI2 := And.intro (Nat.le_trans HI.1 bl.size) (HI.2.below bl)
        go_wp2_with fail
        exact ⟨(), ⟨_, _, _, _, _, _, _, _, _, _, _, _, _, _, _, _, rfl, HI2⟩, ⟨b, rfl, Nat.le_trans HI.1 hb1, hb2⟩, fun j hj hd h => by rcases j with _ | _ | _ | _ | _ | _ | _ | _ | _ | _ | _ | _ | _ | _ | _ | _ | _ | j <;> first | exact absurd rfl hj | exact b3P_below h bl⟩
      rcases i with _ | i
      · skip
        simp only [List.getElem?_cons_succ, List.getElem?_cons_zero, Option.some.injEq] at ho
        subst ho
        have bl : Below W.heap.size W (W.alloc (.map #[] 0)) := (Below.refl _ _).alloc (Nat.le_refl _) _
        have hs : W3.heap.size ≤ W.heap.size := HI.1
        have HI2 := And.intro (Nat.le_trans HI.1 bl.size) (HI.2.below bl)
        clear HI
        unfold b3F
        go_wp2_with fail
        exact ⟨(), ⟨_, _, _, _, _, _, _, _, _, _, _, _, _, _, _, _, rfl, HI2⟩, ⟨_, rfl⟩, fun j hj hd h => by rcases j with _ | _ | _ | _ | _ | _ | _ | _ | _ | _ | _ | _ | _ | _ | _ | _ | _ | j <;> first | exact absurd rfl hj | exact b3P_below h bl⟩
      rcases i with _ | i
      · skip
        simp only [List.getElem?_cons_succ, List.getElem?_cons_zero, Option.some.injEq] at ho
        subst ho
        obtain rfl : v36 = .pointer (some ⟨S, 0, none⟩) := hd ⟨0, .data⟩ (by simp) rfl
        obtain rfl : v37 = .pointer (some ⟨g, 0, none⟩) := hd ⟨1, .data⟩ (by simp) rfl
        obtain ⟨M1, p1, m1⟩ : ∃ b, v42 = .map (some b) ∧ MI W3 W ids b := hd ⟨6, .data⟩ (by simp) rfl
        obtain ⟨M2, p2, m2⟩ : ∃ b, v47 = .map (some b) ∧ MI W3 W jds b := hd ⟨11, .data⟩ (by simp) rfl
        obtain ⟨b, p3⟩ : ∃ b, v48 = .map (some b) := hd ⟨12, .data⟩ (by simp) rfl
        subst p1 p2 p3
        unfold b3F
        go_wp2_with fail
        exact ⟨(), ⟨_, _, _, _, _, _, _, _, _, _, _, _, _, _, _, _, rfl, HI⟩, ⟨M1, M2, b, rfl, m1, m2⟩, fun j hj hd h => by rcases j with _ | _ | _ | _ | _ | _ | _ | _ | _ | _ | _ | _ | _ | _ | _ | _ | _ | j <;> first | exact absurd rfl hj | exact h⟩
      rcases i with _ | i
      · skip
        simp only [List.getElem?_cons_succ, List.getElem?_cons_zero, Option.some.injEq] at ho
        subst ho
        obtain ⟨M1, M2, b, p, m1, m2⟩ : ∃ M1 M2 b, v49 = .agg (rdC S g M1 M2 b .nilFunc) ∧ MI W3 W ids M1 ∧ MI W3 W jds M2 := hd ⟨13, .data⟩ (by simp) rfl
        subst p
        have bl : Below W.heap.size W (W.alloc (.cells (rdC S g M1 M2 b .nilFunc) 130)) := (Below.refl _ _).alloc (Nat.le_refl _) _
        have hs : W3.heap.size ≤ W.heap.size := HI.1
        have HI2 := And.intro (Nat.le_trans HI.1 bl.size) (HI.2.below bl)
        clear HI
        have HQ := Lib.hid (show QB W3 _ S g ids jds W.heap.size M1 M2 b from ⟨hs, Blk.new W _ _, m1.below bl, m2.below bl⟩)
        unfold b3F
        go_wp2_with fail
        exact ⟨(), ⟨_, _, _, _, _, _, _, _, _, _, _, _, _, _, _, _, rfl, HI2⟩, ⟨_, M1, M2, b, rfl, HQ.out⟩, fun j hj hd h => by rcases j with _ | _ | _ | _ | _ | _ | _ | _ | _ | _ | _ | _ | _ | _ | _ | _ | _ | j <;> first | exact absurd rfl hj | exact b3P_below h bl⟩
      rcases i with _ | i
      · skip
        simp only [List.getElem?_cons_succ, List.getElem?_cons_zero, Option.some.injEq] at ho
        subst ho
        have bl : Below W.heap.size W (W.alloc (.cells #[.pointer none] 124)) := (Below.refl _ _).alloc (Nat.le_refl _) _
        have hs : W3.heap.size ≤ W.heap.size := HI.1
        have HI2 := And.intro (Nat.le_trans HI.1 bl.size) (HI.2.below bl)
        clear HI
        unfold b3F
        go_wp2_with fail
        exact ⟨(), ⟨_, _, _, _, _, _, _, _, _, _, _, _, _, _, _, _, rfl, HI2⟩, ⟨_, _, rfl, hs, Blk.new W _ _⟩, fun j hj hd h => by rcases j with _ | _ | _ | _ | _ | _ | _ | _ | _ | _ | _ | _ | _ | _ | _ | _ | _ | j <;> first | exact absurd rfl hj | exact b3P_below h bl | exact absurd rfl (hd _ rfl ⟨15, .data⟩ (by simp) rfl)⟩
      rcases i with _ | i
      · skip
        simp only [List.getElem?_cons_succ, List.getElem?_cons_zero, Option.some.injEq] at ho
        subst ho
        obtain ⟨k, y, p, h1, hx⟩ : ∃ k v, v4 = .pointer (some ⟨k, 0, none⟩) ∧ W3.heap.size ≤ k ∧ Blk W k 124 #[v] := hd ⟨15, .data⟩ (by simp) rfl
        obtain ⟨q, M1, M2, b, p2, m⟩ : ∃ q M1 M2 b, v50 = .pointer (some ⟨q, 0, none⟩) ∧ QB W3 W S g ids jds q M1 M2 b := hd ⟨14, .data⟩ (by simp) rfl
        subst p p2
        have d0 := hx.cell 0
        have f0 := hx.frozen 0
        simp only [List.getElem?_toArray, List.getElem?_cons_zero] at d0
        have HI2 := And.intro (show W3.heap.size ≤ (W.setCell ⟨k, 0, none⟩ (.pointer (some ⟨q, 0, none⟩))).heap.size by simpa [World.setCell] using HI.1) (HI.2.setq (W0 := W3) hx h1 HN.out (.pointer (some ⟨q, 0, none⟩)))
        have HX := Lib.hid hx
        have HF := Lib.hid (show Blk (W.setCell ⟨k, 0, none⟩ (.pointer (some ⟨q, 0, none⟩))) k 124 #[.pointer (some ⟨q, 0, none⟩)] from hx.store 0 _)
        have HM := Lib.hid (show QB W3 (W.setCell ⟨k, 0, none⟩ (.pointer (some ⟨q, 0, none⟩))) S g ids jds q M1 M2 b from m.set hx (by decide) _)
        clear HI hx m
        unfold b3F
        go_wp2_with fail
        exact ⟨(), ⟨_, _, _, _, _, _, _, _, _, _, _, _, _, _, _, _, rfl, HI2⟩, ⟨k, q, M1, M2, b, rfl, h1, HF.out, HM.out⟩, fun j hj hd h => by rcases j with _ | _ | _ | _ | _ | _ | _ | _ | _ | _ | _ | _ | _ | _ | _ | _ | _ | j <;> first | exact absurd rfl hj | exact b3P_set h (by omega) HX.out⟩
      simp at ho
    case hfin =>
      rintro _ a W ⟨v4, v36, v37, v38, v39, v40, v41, v42, v43, v44, v45, v46, v47, v48, v49, v50, rfl, HI⟩ hP
      obtain ⟨k, q, M1, M2, mx, p1, p2, p3, p4⟩ : ∃ k q M1 M2 b, v4 = .pointer (some ⟨k, 0, none⟩) ∧ W3.heap.size ≤ k ∧ Blk W k 124 #[.pointer (some ⟨q, 0, none⟩)] ∧ QB W3 W S g ids jds q M1 M2 b := hP 16 (by simp)
      subst p1
      exact ⟨k, q, M1, M2, mx, _, _, _, _, _, _, _, _, _, _, _, _, _, _, _, rfl, p2, p3, p4, HI⟩
  rintro a W4 ⟨k, q, M1, M2, mx, v36, v37, v38, v39, v40, v41, v42, v43, v44, v45, v46, v47, v48, v49, v50, rfl, hk, hkb, hqb, hsz, hbg⟩
  have hlM : M < W3.heap.size := HBG.out.sp.map.lt
  have hlV : Mv < W3.heap.size := HBG.out.mv.lt
  have bl : Below W4.heap.size W4 (W4.alloc (.cells #[.pointer (some ⟨S, 0, none⟩)] 45)) := (Below.refl _ _).alloc (Nat.le_refl _) _
  have hbx : Blk (W4.alloc (.cells #[.pointer (some ⟨S, 0, none⟩)] 45)) W4.heap.size 45 #[.pointer (some ⟨S, 0, none⟩)] := Blk.new W4 _ _
  have hz : (W4.alloc (.cells #[.pointer (some ⟨S, 0, none⟩)] 45)).heap.size = W4.heap.size + 1 := by simp
  have HL := Lib.hid (slive_c (some ⟨S, 0, none⟩) W4)
  generalize hW5 : W4.alloc (.cells #[.pointer (some ⟨S, 0, none⟩)] 45) = W5 at *
  have hbg5 := hbg.below bl
  have HI0 := Lib.hid (show BgL own0 w S pR pC pS pN ids jds own h g Mv Mn Bd M M4 M5 k q M1 M2 mx W5.heap.size [] W5 from
    ⟨⟨[], hbg5⟩, hkb.kept (bl.block _ hkb.lt), hqb.2.1.kept (bl.block _ hqb.2.1.lt), hqb.2.2.1.2.kept (bl.block _ hqb.2.2.1.2.lt), hqb.2.2.2.2.kept (bl.block _ hqb.2.2.2.2.lt),
      ⟨⟨by have := hqb.2.2.1.1; omega, by have := hqb.2.2.1.1; omega⟩, ⟨by have := hqb.2.2.2.1; omega, by have := hqb.2.2.2.1; omega⟩, HFR.out.2, by omega, by omega⟩, Nat.le_refl _, Nat.le_trans HFR.out.1.1 hqb.1⟩)
  have hlS : pS < w.heap.size := HP.out.2.lt
  have HSQ := Lib.hid (live_seq 2 (by omega) own W4.heap.size S pR pC pS pN ids jds m kvs HD0.out.2.2 W5 hbx hbg5.sh (HP.out.2.kept (hbg5.ch.block _ HP.out.2.lt HP.out.1)) (HM.out.2.kept (fun b e => hbg5.ch.block b (by subst e; exact (show MapG celv w b (kvv kvs) from HM.out.2).lt) (HM.out.1 b e))) hbg5.ax)
  have HST := Lib.hid (BgL.stab (own0 := own0) (w := w) (S := S) (pR := pR) (pC := pC) (pS := pS) (pN := pN) (ids := ids) (jds := jds) (own := own) (h := h) (g := g) (Mv := Mv) (Mn := Mn) (Bd := Bd) (M := M) (M4 := M4) (M5 := M5) (k := k) (q := q) (M1 := M1) (M2 := M2) (mx := mx) (b := W5.heap.size) (Nat.le_trans HFR.out.1.1 (by omega)) (fun j hj => Nat.lt_of_lt_of_le (HFR.out.1.2 j hj) (by omega)))
  have HZ := Lib.hid (show w.heap.size ≤ W5.heap.size from Nat.le_trans HFR.out.1.1 (by omega))
  have HND := Lib.hid (And.intro HD0.out.1.nodup HD0.out.2.1.nodup)
  clear hk hkb hqb hsz hbg hlM hlV bl hbx hz hbg5 HBG HFR HA HN HP HM hlS
  unfold b3F
  go_wp2_with fail
  refine HL.out.mono ?_
  rintro _ W5 ⟨rfl, rfl⟩
  clear HL hW5
  go_wp2_with fail
  refine (wpIn_wide (n := 3)).1 ?_
  obtain ⟨bx, hbx⟩ : ∃ bx, bx = W4.heap.size := ⟨_, rfl⟩
  rw [← hbx] at HSQ ⊢
  clear hbx
  obtain ⟨TM, hTM⟩ : ∃ TM : Value → Value → Value → Value → Array Value, TM = fun b5 b6 kk vv => #[.pointer (some ⟨S, 0, none⟩), undef, .pointer none, .pointer (some ⟨h, 0, none⟩), .pointer (some ⟨k, 0, none⟩), b5, b6, undef, undef, undef, u10, u11, u12, u13, u14, u15, u16, u17, u18, u19, u20, u21, u22, u23, .pointer (some ⟨g, 0, none⟩), .pointer (some ⟨g, 0, none⟩), .pointer (some ⟨g, 0, none⟩), .pointer (some ⟨g, 0, none⟩), .int .i64 ids.length, .pointer (some ⟨g, 0, none⟩), .pointer (some ⟨g, 0, none⟩), .pointer (some ⟨g, 1, none⟩), .int .i64 jds.length, .pointer (some ⟨Bd, 0, none⟩), .pointer (some ⟨g, 0, none⟩), .pointer (some ⟨g, 9, none⟩), v36, v37, v38, v39, v40, v41, v42, v43, v44, v45, v46, v47, v48, v49, v50, .pointer (some ⟨S, 0, none⟩), .func (.func 121) #[] #[.pointer (some ⟨bx, 0, none⟩)], kk, vv, undef, undef, undef, undef, undef, undef, undef, undef, undef, undef, undef, undef, undef, undef, undef, undef, undef, undef, undef, undef, undef, undef, undef, undef, undef, undef, undef, undef, undef, undef, undef, undef, undef, undef, undef, undef, undef, undef, undef, undef, undef, undef, undef, undef, undef, undef, undef, undef, undef, undef, undef, undef, undef, undef, undef, undef, undef, undef, undef, undef, undef, undef, undef, undef, undef, undef, undef, undef, undef, undef, undef, undef, undef, undef, undef, undef, undef, undef, undef, undef, undef, undef, undef, undef] := ⟨_, rfl⟩
  refine range_own2 rfl (by omega) (gf := 121) (lb := #[.pointer (some ⟨bx, 0, none⟩)]) rfl trivial (enters_of Tryz.func121 (by kernel_rfl) rfl) HSQ.out KG.trans (fun W l L o' _ h1 => KG.put (fun _ h => h) W l L o' h1) (fun _ => rfl)
    (BgL own0 w S pR pC pS pN ids jds own h g Mv Mn Bd M M4 M5 k q M1 M2 mx W5.heap.size) (fun _ _ _ => False) HST.out (fun _ _ _ _ h _ => h.elim) HI0.out
    (fun x a' W => ∃ B5 B6, W5.heap.size ≤ B5 ∧ W5.heap.size ≤ B6 ∧ Blk W B5 29 x.1.cs.toArray ∧ Blk W B6 42 (ctc x.2).toArray ∧ a' = { tmps := TM (.pointer (some ⟨B5, 0, none⟩)) (.pointer (some ⟨B6, 0, none⟩)) (celv x.1) (ctv x.2), defers := [] })
    (fun x a' W l L o' hl ⟨B4, B5, h1, h2, h3, h4, h5⟩ => ⟨B4, B5, h1, h2, h3.kept (World.putObj_heap_other (fun e => by subst e; rw [h3] at hl; cases hl)), h4.kept (World.putObj_heap_other (fun e => by subst e; rw [h4] at hl; cases hl)), h5⟩) ?assign ?body ?done ?stop
  case assign =>
    rintro l pre ⟨⟨⟨x1, x2⟩, x3, x4⟩, v⟩ W K ci hK
    have HKK := Lib.hid hK
    clear hK
    simp only [celv, encA]
    have bl : Below W.heap.size W (W.alloc (.cells #[.int .i64 x1, .int .i64 x2, .int .i64 x3, .int .i64 x4] 29)) := (Below.refl _ _).alloc (Nat.le_refl _) _
    have BV := Lib.hid bl
    have HV := Lib.hid (Blk.new W 29 #[.int .i64 x1, .int .i64 x2, .int .i64 x3, .int .i64 x4])
    have HVs : Hid ((W.alloc (.cells #[.int .i64 x1, .int .i64 x2, .int .i64 x3, .int .i64 x4] 29)).heap.size = W.heap.size + 1) := Lib.hid (by simp)
    have HCI := Lib.hid ci
    have HC1 := Lib.hid (ctc_ones v)
    have HKF := Lib.hid (KeepsOthers.alloc W (.cells #[.int .i64 x1, .int .i64 x2, .int .i64 x3, .int .i64 x4] 29))
    clear ci bl HSQ HI0
    have hl0 : Hid ((ctc v).length = 29) := Lib.hid rfl
    have hlz : Hid (ctZ.length = 29) := Lib.hid rfl
    gi_wp2_with (refine list_round (by rintro ⟨_, _, h⟩; exact h) _ _ _ (by kernel_rfl) ?_)
    go_wp2_with fail
    generalize W.alloc (.cells #[.int .i64 x1, .int .i64 x2, .int .i64 x3, .int .i64 x4] 29) = V at *
    have b2 : Below V.heap.size V (V.alloc (.cells (ctc v).toArray 42)) := (Below.refl _ _).alloc (Nat.le_refl _) _
    have b3 : Below W.heap.size W (V.alloc (.cells (ctc v).toArray 42)) := BV.out.trans (b2.mono BV.out.size)
    have HL : W5.heap.size ≤ W.heap.size := HCI.out.sz
    have HF := Lib.hid (HKK.out { tmps := TM (.pointer (some ⟨W.heap.size, 0, none⟩)) (.pointer (some ⟨V.heap.size, 0, none⟩)) (celv ((x1, x2), (x3, x4))) (ctv v), defers := [] } _ ((HKF.out.trans (KeepsOthers.alloc _ _)).from _) (.of b3) (HST.out _ _ _ HCI.out (.of b3))
      ⟨W.heap.size, V.heap.size, HL, by have := HVs.out; omega, HV.out.kept (b2.block _ HV.out.lt), Blk.new V _ _, rfl⟩)
    clear b2 b3 HL HKK HKF HVs HCI HV BV HST
    rw [hTM] at HF
    dsimp only at HF
    gi_wp2_with (refine list_round (by rintro ⟨_, _, h⟩; exact h) _ _ _ (by kernel_rfl) ?_)
    go_wp2_with (refine st_new cont_row rfl _ _ rfl (cs := ctc v) (z := ctZ) rfl rfl hl0.out hlz.out HC1.out ?_)
    exact HF.out
  case body =>
    clear HSQ HI0 HST
    rintro l pre ⟨⟨⟨x1, x2⟩, x3, x4⟩, v⟩ a' W hl ci ⟨B5, B6, hb5, hb6, h5, h6, rfl⟩ hlt
    have c4 := ci.kb.cell 0
    have e0 := h5.cell 0
    have e1 := h5.cell 1
    have e2 := h5.cell 2
    have e3 := h5.cell 3
    simp only [Cel.cs, List.getElem?_toArray, List.getElem?_cons_zero, List.getElem?_cons_succ] at c4 e0 e1 e2 e3
    have HC := Lib.hid (fun n => CallsIn.inRound l (callsIn_wide (n := n) |>.2 (rplace_c W q M1 M2 ids jds HND.out.1 HND.out.2 x1 x2 x3 x4 ci.rdm)))
    have H := Lib.hid (And.intro ci h6)
    have HPV := Lib.hid (pvs_snoc ids jds pre (((x1, x2), (x3, x4)), v))
    have HLT := Lib.hid (And.intro (atI_lt (ids := ids) (k := (x1, x2))) (atI_lt (ids := jds) (k := (x3, x4))))
    unfold PcP at HC
    simp only at HPV
    clear hl ci h5 h6 hb5 hb6 hlt
    rw [hTM]
    dsimp only
    generalize atI ids (x1, x2) = i at *
    generalize atI jds (x3, x4) = j at *
    generalize inI ids (x1, x2) = t1 at *
    generalize inI jds (x3, x4) = t2 at *
    gi_wp2
    refine ⟨trivial, CallsIn.mono (HC.out _) ?_⟩
    rintro _ W1 ⟨rfl, b1⟩
    have bl : Below W1.heap.size W1 (W1.alloc (.cells #[.int .i64 i, .int .i64 j] 89)) := (Below.refl _ _).alloc (Nat.le_refl _) _
    have b2 : Below W.heap.size W (W1.alloc (.cells #[.int .i64 i, .int .i64 j] 89)) := b1.trans (bl.mono b1.size)
    have HCI := Lib.hid (H.out.1.below b2)
    have HB2 := Lib.hid b2
    have HPB := Lib.hid (Blk.new W1 89 #[.int .i64 i, .int .i64 j])
    have HCT := Lib.hid (H.out.2.kept (b2.block _ H.out.2.lt))
    clear b1 bl b2 HC c4 e0 e1 e2 e3
    have ht : ∃ t, Hid (t = (t1 && t2)) := ⟨_, Lib.hid rfl⟩
    obtain ⟨t, ht⟩ := ht
    rw [← ht.out] at HPV ⊢
    gi_wp2_with (refine list_round (by rintro ⟨_, _, h⟩; exact h) _ _ _ (by kernel_rfl) ?_)
    go_wp2_with fail
    generalize hp : W1.heap.size = p at *
    generalize W1.alloc (.cells #[.int .i64 i, .int .i64 j] 89) = W2 at *
    clear hp
    cases t
    · gi_wp2
      have hpv : pvs ids jds (pre ++ [(((x1, x2), (x3, x4)), v)]) = pvs ids jds pre := HPV.out
      have ci := HCI.out
      exact ⟨(show KeepsOthers _ _ from ⟨HB2.out.size, fun k o hk _ => (HB2.out.block k (Array.getElem?_eq_some_iff.1 hk).1).trans hk⟩).from _, .of HB2.out, ⟨by rw [hpv]; exact ci.bg, ci.kb, ci.qb, ci.m1, ci.m2, ci.ne, ci.sz, ci.nq⟩⟩
    · have hpv : pvs ids jds (pre ++ [(((x1, x2), (x3, x4)), v)]) = putG (i, j) (valv v) (pvs ids jds pre) := HPV.out
      obtain ⟨rfl, rfl⟩ : t1 = true ∧ t2 = true := by simpa using ht.out.symm
      obtain ⟨fl, hbg⟩ := HCI.out.bg
      obtain ⟨hi0, hi1⟩ := HLT.out.1 rfl
      obtain ⟨hj0, hj1⟩ := HLT.out.2 rfl
      have HPV2 := Lib.hid hpv
      have C9 : AllCells W2.drew [(⟨h, 0, none⟩, .pointer (some ⟨g, 0, none⟩)), (⟨g, 9, none⟩, .pointer (some ⟨Bd, 0, none⟩)), (⟨p, 0, none⟩, .int .i64 i), (⟨p, 1, none⟩, .int .i64 j)] := ⟨hbg.hb.cell 0, hbg.gb.cell 9, HPB.out.cell 0, HPB.out.cell 1, trivial⟩
      have HFL := Lib.hid (fill_c W2.drew Bd M M4 M5 ids.length jds.length fl i j (hbg.sp.below (Below.refl _ _).drew) hi0 hi1 hj0 hj1)
      have HBG := Lib.hid hbg
      clear hpv HPV ht hbg hi0 hi1 hj0 hj1 HLT
      gi_wp2_with fail
      refine rfreeR [0, 1, 2, 3, 4, 5, 6, 7] 1 (by rintro ⟨_, _, h⟩; exact h) (by kernel_rfl) (by kernel_rfl) (fun _ _ _ _ _ h => h) C9 ?_
      intro hne hu; try simp only [AllCells] at hu
      simp only [pick, pk]
      repeat (go_big_quiet_step (fail))
      refine wpQuiet_nil ?_; clear hne hu
      refine anyN_oneL 8 (by kernel_rfl) ?_; simp only [pk]
      go_wp2_with fail
      refine HFL.out.mono ?_
      rintro _ W3' ⟨rfl, sp3, ch3⟩
      have hB : ∀ {b : Nat} {t : TypeId} {cs : Array Value}, Blk W2 b t cs → Blk W3' b t cs := fun hb => hb.kept ((ch3.block _ (show _ < W2.drew.heap.size from hb.lt) (fun e => map_ne HBG.out.sp.map hb e.symm)))
      have ch2 : Chg (fun j => j ≠ M ∧ j ≠ Mv) W2 W3' := ⟨ch3.os, ch3.tape, ch3.output, ch3.size, fun j hj e => ch3.block j hj e.1⟩
      have hmv3 : MapG idv W3' Mv (pvs ids jds pre) := HBG.out.mv.kept (ch3.block _ (show _ < W2.drew.heap.size from HBG.out.mv.lt) HBG.out.ne.2.1)
      have C9' : AllCells W3' [(⟨h, 0, none⟩, .pointer (some ⟨g, 0, none⟩)), (⟨g, 9, none⟩, .pointer (some ⟨Bd, 0, none⟩)), (⟨p, 0, none⟩, .int .i64 i), (⟨p, 1, none⟩, .int .i64 j)] := ⟨(hB HBG.out.hb).cell 0, (hB HBG.out.gb).cell 9, (hB HPB.out).cell 0, (hB HPB.out).cell 1, trivial⟩
      obtain ⟨vk, vm, ve, vt, vb, vf⟩ := v
      have hct := hB HCT.out
      have c10 := hct.cell 0
      have C11 : AllCells W3'.drew [(⟨h, 0, none⟩, .pointer (some ⟨g, 0, none⟩)), (⟨g, 2, none⟩, .map (some Mv)), (⟨p, 0, none⟩, .int .i64 i), (⟨p, 1, none⟩, .int .i64 j), (⟨B6, 1, none⟩, .int .i64 vk), (⟨B6, 2, none⟩, .int .i64 vm), (⟨B6, 3, none⟩, .int .i64 ve), (⟨B6, 4, none⟩, .string vt), (⟨B6, 5, none⟩, .bool vb), (⟨B6, 6, none⟩, .int .i64 vf)] :=
        ⟨(hB HBG.out.hb).cell 0, (hB HBG.out.gb).cell 2, (hB HPB.out).cell 0, (hB HPB.out).cell 1, hct.cell 1, hct.cell 2, hct.cell 3, hct.cell 4, hct.cell 5, hct.cell 6, trivial⟩
      have HNE := Lib.hid (And.intro (fun e : h = Mv => map_ne HBG.out.mv HBG.out.hb e.symm) (And.intro (fun e : g = Mv => map_ne HBG.out.mv HBG.out.gb e.symm) (And.intro (fun e : p = Mv => map_ne HBG.out.mv HPB.out e.symm) (fun e : B6 = Mv => map_ne HBG.out.mv HCT.out e.symm))))
      have HX := Lib.hid (And.intro hmv3 (And.intro sp3 ch2))
      simp only [ctc, ccs, Val.cs, List.getElem?_toArray, List.getElem?_cons_zero, List.cons_append] at c10
      clear hB hmv3 sp3 ch2 ch3 hct HFL C9 HPB HCT
      go_wp2_with fail
      first | refine And.intro (fun _ => C9') ?_ | refine And.intro C9' ?_ | skip
      refine ⟨by kernel_rfl, ?_⟩
      gi_wp2_with fail
      clear c10 C9'
      refine rfreeR [0, 1, 2, 3, 5] 3 (by rintro ⟨_, _, h⟩; exact h) (by kernel_rfl) (by kernel_rfl) (fun _ _ _ _ _ h => h) C11 ?_
      intro hne hu; try simp only [AllCells] at hu
      simp only [pick, pk]
      repeat (go_big_quiet_step (fail))
      refine wpQuiet_nil ?_; clear hne hu
      obtain ⟨-, -, k0, k1, k2, k3, k4, k5, k6, k7, -⟩ := id C11
      have hq : ∀ (w4 : World), W3'.drew.grownBy w4 (some Mv) → AllCells w4 [(⟨h, 0, none⟩, .pointer (some ⟨g, 0, none⟩)), (⟨g, 2, none⟩, .map (some Mv)), (⟨p, 0, none⟩, .int .i64 i), (⟨p, 1, none⟩, .int .i64 j), (⟨B6, 1, none⟩, .int .i64 vk), (⟨B6, 2, none⟩, .int .i64 vm), (⟨B6, 3, none⟩, .int .i64 ve), (⟨B6, 4, none⟩, .string vt), (⟨B6, 5, none⟩, .bool vb), (⟨B6, 6, none⟩, .int .i64 vf)] := fun w4 hg => AllCells.grown C11 hg (fun x hx e => by
        simp only [List.mem_cons, List.not_mem_nil, or_false] at hx
        rcases hx with rfl | rfl | rfl | rfl | rfl | rfl | rfl | rfl | rfl | rfl <;> first | exact HNE.out.1 (Option.some.inj e) | exact HNE.out.2.1 (Option.some.inj e) | exact HNE.out.2.2.1 (Option.some.inj e) | exact HNE.out.2.2.2 (Option.some.inj e))
      have HQ := Lib.hid hq
      clear hq
      refine anyN_twoL 4 6 (by kernel_rfl) ?_ ?_ <;> simp only [pk]
      · go_wp2_with fail
        first | refine And.intro (fun _ => C11) ?_ | refine And.intro C11 ?_ | skip
        refine anyN_oneL 6 (by kernel_rfl) ?_; simp only [pk]
        go_wp2_with fail
        first | refine And.intro (fun _ => C11) ?_ | refine And.intro C11 ?_ | skip
        refine anyN_oneL 7 (by kernel_rfl) ?_; simp only [pk]
        refine wpList_mapUpdate_g keyPlace _ rfl _ _ _ _ rfl _ Tryz.underlying97 _ _ rfl (HX.out.1.kept rfl) (i, j) _ rfl rfl ?_
        intro w4 hm4 hg4 hs4
        have CQ := HQ.out w4 hg4
        have HF := Lib.hid (And.intro hm4 (And.intro hg4 hs4))
        clear hm4 hg4 hs4 C11 k0 k1 k2 k3 k4 k5 k6 k7
        go_wp2_with fail
        first | refine And.intro (fun _ => CQ) ?_ | refine And.intro CQ ?_ | skip
        refine ⟨by kernel_rfl, ?_⟩
        gi_wp2_with fail
        obtain ⟨hm4, hg4, hs4⟩ := HF.out
        have ci2 := HCI.out
        obtain ⟨hmv3, sp3, ch2⟩ := HX.out
        have ch4 : Chg (fun j => j ≠ M ∧ j ≠ Mv) W w4 := ((Chg.of HB2.out).trans (ch2.drew) (fun _ _ e => e)).grew hg4 (fun k e _ hk => by cases e; exact hk.2 rfl)
        have hmM : MapG idv w4 M _ := sp3.map.kept (hg4.block _ (show M < W3'.drew.heap.size from sp3.map.lt) (fun e => HBG.out.ne.2.1 (Option.some.inj e).symm))
        obtain ⟨flw, hbgw⟩ := H.out.1.bg
        refine ⟨keeps_chg ch4 ci2.ne.2.2.2.1 ci2.ne.2.2.2.2, kg_chg (fun _ _ h => h) hbgw.sp.map hbgw.mv ch4, H.out.1.chg ch4 hmM ?_⟩
        rw [HPV2.out]
        exact hm4
      · go_wp2_with fail
        first | refine And.intro (fun _ => C11) ?_ | refine And.intro C11 ?_ | skip
        refine anyN_oneL 4 (by kernel_rfl) ?_; simp only [pk]
        go_wp2_with fail
        first | refine And.intro (fun _ => C11) ?_ | refine And.intro C11 ?_ | skip
        refine anyN_oneL 7 (by kernel_rfl) ?_; simp only [pk]
        refine wpList_mapUpdate_g keyPlace _ rfl _ _ _ _ rfl _ Tryz.underlying97 _ _ rfl (HX.out.1.kept rfl) (i, j) _ rfl rfl ?_
        intro w4 hm4 hg4 hs4
        have CQ := HQ.out w4 hg4
        have HF := Lib.hid (And.intro hm4 (And.intro hg4 hs4))
        clear hm4 hg4 hs4 C11 k0 k1 k2 k3 k4 k5 k6 k7
        go_wp2_with fail
        first | refine And.intro (fun _ => CQ) ?_ | refine And.intro CQ ?_ | skip
        refine ⟨by kernel_rfl, ?_⟩
        gi_wp2_with fail
        obtain ⟨hm4, hg4, hs4⟩ := HF.out
        have ci2 := HCI.out
        obtain ⟨hmv3, sp3, ch2⟩ := HX.out
        have ch4 : Chg (fun j => j ≠ M ∧ j ≠ Mv) W w4 := ((Chg.of HB2.out).trans (ch2.drew) (fun _ _ e => e)).grew hg4 (fun k e _ hk => by cases e; exact hk.2 rfl)
        have hmM : MapG idv w4 M _ := sp3.map.kept (hg4.block _ (show M < W3'.drew.heap.size from sp3.map.lt) (fun e => HBG.out.ne.2.1 (Option.some.inj e).symm))
        obtain ⟨flw, hbgw⟩ := H.out.1.bg
        refine ⟨keeps_chg ch4 ci2.ne.2.2.2.1 ci2.ne.2.2.2.2, kg_chg (fun _ _ h => h) hbgw.sp.map hbgw.mv ch4, H.out.1.chg ch4 hmM ?_⟩
        rw [HPV2.out]
        exact hm4
  case done =>
    rintro DD xs W hD hS2 ci hK
    clear HSQ HI0 HST
    have c4 := ci.kb.cell 0
    have c5 := ci.qb.cell 2
    have HDZ := Lib.hid (Nat.le_trans HZ.out hD)
    have H := Lib.hid (And.intro hS2 (And.intro ci hK))
    simp only [rdC, List.getElem?_toArray, List.getElem?_cons_zero, List.getElem?_cons_succ] at c4 c5
    clear hD hS2 ci hK
    dsimp only
    go_wp2_with fail
    go_loopw [131] (fun iv wx => iv = .int .i64 0 ∧ Hid (WIs W wx)) (fun _ _ => 0)
    case atStart => exact ⟨rfl, Lib.hid rfl⟩
    case round =>
      obtain ⟨rfl, hw⟩ := hrel
      obtain rfl : wr = W := hw.out
      go_wp2_with fail
      obtain ⟨hS2, ci, hK⟩ := H.out
      obtain ⟨fl, hbg⟩ := ci.bg
      have hq : ∀ {b : Nat} {o : Obj}, wr.heap[b]? = some o → (∀ x, o ≠ .deferred x) → (wr.putObj DD (.deferred none)).heap[b]? = wr.heap[b]? := fun hb hn => World.putObj_heap_other (fun e => by subst e; rw [hK] at hb; cases hb; exact hn _ rfl)
      have hB : ∀ {b : Nat} {t : TypeId} {cs : Array Value}, Blk wr b t cs → Blk (wr.putObj DD (.deferred none)) b t cs := fun hb => hb.kept (hq hb (fun x e => by cases e))
      have hM : ∀ {b : Nat} {l : List (Id × Value)}, MapG idv wr b l → MapG idv (wr.putObj DD (.deferred none)) b l := fun hm => hm.kept (by obtain ⟨es, c, h1, -⟩ := hm; exact hq h1 (fun x e => by cases e))
      have hz := HDZ.out
      refine m_end rfl rfl rfl rfl hK ⟨q, g, Mv, Mn, Bd, M5, _, rfl, ⟨⟨M1, M2, mx, hB ci.qb⟩, ⟨_, _, _, hB hbg.gb⟩, ⟨_, _, _, _, _, hB hbg.sp.blk⟩, hM hbg.mv, hM hbg.mn, hM hbg.sp.m5⟩, ⟨xs, hS2, rfl⟩, ?_, ?_⟩
      · exact ⟨ci.nq, hbg.new.2.1⟩
      · exact ⟨hbg.ch.os, hbg.ch.tape, hbg.ch.output, by simpa using hbg.ch.size, fun j hj e => (World.putObj_heap_other (by omega)).trans (hbg.ch.block j hj e)⟩
  case stop =>
    rintro DD c pre W hD hS ci hK
    exact ci.elim
end Go.Proofs.YtoicnghjjgkebaaGreatDoor
