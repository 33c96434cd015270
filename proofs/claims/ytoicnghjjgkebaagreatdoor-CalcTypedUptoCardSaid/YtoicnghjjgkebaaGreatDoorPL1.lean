/-
  calc.begin, its third region: the rounds. Condition: what the regions ahead of it leave.
  What is typed shows, in plain words: the cells by their places, and the list of all places, tell the same. No condition.
-/
import Derived.Test.YtoicnghjjgkebaaGreatDoorN27
import Derived.Test.YtoicnghjjgkebaaGreatDoorN17
import Derived.Test.YtoicnghjjgkebaaGreatDoorN13
set_option linter.unusedSectionVars false
set_option linter.unusedSimpArgs false
set_option linter.unusedVariables false
set_option linter.unnecessarySimpa false
namespace Go.Proofs.YtoicnghjjgkebaaGreatDoor
open Go.RowKit Go.Shelf
/-- What stands behind the board: the sheet, the result's box, the result, the board; nobody's blocks but the axes'. -/
structure Bg (own0 : Tags) (w : World) (S pR pC pS pN : Nat) (ids jds : List Id) (own : Tags) (h g Mv Mn Bd M M4 M5 : Nat) (pv fl : List (Id × Value)) (W : World) : Prop where
  sh : ShB W S pR pC pS pN
  ax : AxR W own pR pC ids jds
  hb : Blk W h 52 #[.pointer (some ⟨g, 0, none⟩)]
  gb : Blk W g 104 (resC ids.length jds.length Mv Mn (.slice none 0 0) (.slice none 0 0) (.pointer none) (.pointer (some ⟨Bd, 0, none⟩)) 0)
  sp : SpB W Bd M M4 M5 ids.length jds.length fl
  mv : MapG idv W Mv pv
  mn : MapG idv W Mn []
  ne : Mv ≠ Mn ∧ Mv ≠ M ∧ Mn ≠ M ∧ Mv ≠ M4 ∧ Mv ≠ M5
  new : w.heap.size ≤ h ∧ w.heap.size ≤ g ∧ w.heap.size ≤ Mv ∧ w.heap.size ≤ M ∧ w.heap.size ≤ Bd
  ch : Chg (fun k => own0 k = 0) w W
theorem Bg.below {own0 : Tags} {w : World} {S pR pC pS pN : Nat} {ids jds : List Id} {own : Tags} {h g Mv Mn Bd M M4 M5 : Nat} {pv fl : List (Id × Value)} {W W' : World} (H : Bg own0 w S pR pC pS pN ids jds own h g Mv Mn Bd M M4 M5 pv fl W) (b : Below W.heap.size W W') : Bg own0 w S pR pC pS pN ids jds own h g Mv Mn Bd M M4 M5 pv fl W' :=
  ⟨H.sh.kept (b.block _ H.sh.lt), H.ax.below b, H.hb.kept (b.block _ H.hb.lt), H.gb.kept (b.block _ H.gb.lt), H.sp.below b, H.mv.kept (b.block _ H.mv.lt), H.mn.kept (b.block _ H.mn.lt), H.ne, H.new, H.ch.next b⟩
/-- The places of ids. -/
def MI (W0 W : World) (ids : List Id) (b : Nat) : Prop := W0.heap.size ≤ b ∧ MapG idv W b (spots ids)
theorem MI.below {W0 W W' : World} {ids : List Id} {b : Nat} (h : MI W0 W ids b) (k : Below W.heap.size W W') : MI W0 W' ids b := ⟨h.1, h.2.kept (k.block _ h.2.lt)⟩
/-- The rounds. -/
def QB (W0 W : World) (S g : Nat) (ids jds : List Id) (q M1 M2 b : Nat) : Prop := W0.heap.size ≤ q ∧ Blk W q 130 (rdC S g M1 M2 b .nilFunc) ∧ MI W0 W ids M1 ∧ MI W0 W jds M2
theorem QB.below {W0 W W' : World} {S g : Nat} {ids jds : List Id} {q M1 M2 b : Nat} (h : QB W0 W S g ids jds q M1 M2 b) (k : Below W.heap.size W W') : QB W0 W' S g ids jds q M1 M2 b := ⟨h.1, h.2.1.kept (k.block _ h.2.1.lt), h.2.2.1.below k, h.2.2.2.below k⟩
/-- The frame at the region. -/
def b3F (S h g Bd : Nat) (R C : Int) (u10 u11 u12 u13 u14 u15 u16 u17 u18 u19 u20 u21 u22 u23 : Value) (v4 v36 v37 v38 v39 v40 v41 v42 v43 v44 v45 v46 v47 v48 v49 v50 : Value) : Act := { tmps := #[.pointer (some ⟨S, 0, none⟩), undef, .pointer none, .pointer (some ⟨h, 0, none⟩), v4, undef, undef, undef, undef, undef, u10, u11, u12, u13, u14, u15, u16, u17, u18, u19, u20, u21, u22, u23, .pointer (some ⟨g, 0, none⟩), .pointer (some ⟨g, 0, none⟩), .pointer (some ⟨g, 0, none⟩), .pointer (some ⟨g, 0, none⟩), .int .i64 R, .pointer (some ⟨g, 0, none⟩), .pointer (some ⟨g, 0, none⟩), .pointer (some ⟨g, 1, none⟩), .int .i64 C, .pointer (some ⟨Bd, 0, none⟩), .pointer (some ⟨g, 0, none⟩), .pointer (some ⟨g, 9, none⟩), v36, v37, v38, v39, v40, v41, v42, v43, v44, v45, v46, v47, v48, v49, v50, undef, undef, undef, undef, undef, undef, undef, undef, undef, undef, undef, undef, undef, undef, undef, undef, undef, undef, undef, undef, undef, undef, undef, undef, undef, undef, undef, undef, undef, undef, undef, undef, undef, undef, undef, undef, undef, undef, undef, undef, undef, undef, undef, undef, undef, undef, undef, undef, undef, undef, undef, undef, undef, undef, undef, undef, undef, undef, undef, undef, undef, undef, undef, undef, undef, undef, undef, undef, undef, undef, undef, undef, undef, undef, undef, undef, undef, undef, undef, undef, undef, undef, undef, undef, undef, undef, undef, undef], defers := [] }
def b3P (W0 : World) (S pR pC g : Nat) (ids jds : List Id) (_ : Unit) (i : Nat) (a : Act) (W : World) : Prop := match i with
  | 0 => a.tmps.getD 36 undef = .pointer (some ⟨S, 0, none⟩)
  | 1 => a.tmps.getD 37 undef = .pointer (some ⟨g, 0, none⟩)
  | 2 => a.tmps.getD 38 undef = .pointer (some ⟨S, 0, none⟩)
  | 3 => a.tmps.getD 39 undef = .pointer (some ⟨S, 0, none⟩)
  | 4 => a.tmps.getD 40 undef = .pointer (some ⟨S, 0, none⟩)
  | 5 => a.tmps.getD 41 undef = .pointer (some ⟨pR, 0, none⟩)
  | 6 => ∃ b, a.tmps.getD 42 undef = .map (some b) ∧ MI W0 W ids b
  | 7 => a.tmps.getD 43 undef = .pointer (some ⟨S, 0, none⟩)
  | 8 => a.tmps.getD 44 undef = .pointer (some ⟨S, 0, none⟩)
  | 9 => a.tmps.getD 45 undef = .pointer (some ⟨S, 1, none⟩)
  | 10 => a.tmps.getD 46 undef = .pointer (some ⟨pC, 0, none⟩)
  | 11 => ∃ b, a.tmps.getD 47 undef = .map (some b) ∧ MI W0 W jds b
  | 12 => ∃ b, a.tmps.getD 48 undef = .map (some b)
  | 13 => ∃ M1 M2 b, a.tmps.getD 49 undef = .agg (rdC S g M1 M2 b .nilFunc) ∧ MI W0 W ids M1 ∧ MI W0 W jds M2
  | 14 => ∃ q M1 M2 b, a.tmps.getD 50 undef = .pointer (some ⟨q, 0, none⟩) ∧ QB W0 W S g ids jds q M1 M2 b
  | 15 => ∃ k v, a.tmps.getD 4 undef = .pointer (some ⟨k, 0, none⟩) ∧ W0.heap.size ≤ k ∧ Blk W k 124 #[v]
  | 16 => ∃ k q M1 M2 b, a.tmps.getD 4 undef = .pointer (some ⟨k, 0, none⟩) ∧ W0.heap.size ≤ k ∧ Blk W k 124 #[.pointer (some ⟨q, 0, none⟩)] ∧ QB W0 W S g ids jds q M1 M2 b
  | _ => True
section
variable {W0 W W' : World} {S pR pC g : Nat} {ids jds : List Id} {i : Nat} {a : Act} {x : Unit}
theorem b3P_below (h : b3P W0 S pR pC g ids jds x i a W) (k : Below W.heap.size W W') : b3P W0 S pR pC g ids jds x i a W' := by
  unfold b3P at h ⊢
  split at h
  case h_7 => obtain ⟨b, h1, h2⟩ := h; exact ⟨b, h1, h2.below k⟩
  case h_12 => obtain ⟨b, h1, h2⟩ := h; exact ⟨b, h1, h2.below k⟩
  case h_14 => obtain ⟨b1, b2, b3, h1, h2, h3⟩ := h; exact ⟨b1, b2, b3, h1, h2.below k, h3.below k⟩
  case h_15 => obtain ⟨q, b1, b2, b3, h1, h2⟩ := h; exact ⟨q, b1, b2, b3, h1, h2.below k⟩
  case h_16 => obtain ⟨b, v, h1, h2, h4⟩ := h; exact ⟨b, v, h1, h2, h4.kept (k.block _ h4.lt)⟩
  case h_17 => obtain ⟨b, q, b1, b2, b3, h1, h2, h4, h5⟩ := h; exact ⟨b, q, b1, b2, b3, h1, h2, h4.kept (k.block _ h4.lt), h5.below k⟩
  all_goals first | exact h | exact trivial
theorem MI.set {b k : Nat} {ty : TypeId} {cs : Array Value} (h : MI W0 W ids b) (hk : Blk W k ty cs) (v : Value) : MI W0 (W.setCell ⟨k, 0, none⟩ v) ids b := ⟨h.1, h.2.kept (Below.heap_setCell _ _ _ _ (map_ne h.2 hk))⟩
theorem QB.set {q M1 M2 b k : Nat} {ty : TypeId} {cs : Array Value} (h : QB W0 W S g ids jds q M1 M2 b) (hk : Blk W k ty cs) (ht : 130 ≠ ty) (v : Value) : QB W0 (W.setCell ⟨k, 0, none⟩ v) S g ids jds q M1 M2 b :=
  ⟨h.1, h.2.1.kept (Below.heap_setCell _ _ _ _ (blk_ne h.2.1 hk ht)), h.2.2.1.set hk v, h.2.2.2.set hk v⟩
theorem b3P_set {k : Nat} {u v : Value} (h : b3P W0 S pR pC g ids jds x i a W) (hi : i ≠ 16) (hk : Blk W k 124 #[u]) : b3P W0 S pR pC g ids jds x i a (W.setCell ⟨k, 0, none⟩ v) := by
  unfold b3P at h ⊢
  split at h
  case h_7 => obtain ⟨b, h1, h2⟩ := h; exact ⟨b, h1, h2.set hk v⟩
  case h_12 => obtain ⟨b, h1, h2⟩ := h; exact ⟨b, h1, h2.set hk v⟩
  case h_14 => obtain ⟨b1, b2, b3, h1, h2, h3⟩ := h; exact ⟨b1, b2, b3, h1, h2.set hk v, h3.set hk v⟩
  case h_15 => obtain ⟨q, b1, b2, b3, h1, h2⟩ := h; exact ⟨q, b1, b2, b3, h1, h2.set hk (by decide) v⟩
  case h_16 =>
    obtain ⟨b, y, h1, h2, h4⟩ := h
    by_cases e : b = k
    · subst e; exact ⟨b, _, h1, h2, h4.store 0 v⟩
    · exact ⟨b, y, h1, h2, h4.kept (Below.heap_setCell _ _ _ _ e)⟩
  case h_17 => exact absurd rfl hi
  all_goals first | exact h | exact trivial
end
@[go_sem ↓] theorem Tryz.build_rd (S g M1 M2 b : Nat) (w : World) : (Instr.build 130 #[(0, .pointer (some ⟨S, 0, none⟩)), (1, .pointer (some ⟨g, 0, none⟩)), (3, .map (some M1)), (4, .map (some M2)), (5, .map (some b))]).run Tryz.prog w = .ok (.agg #[.pointer (some ⟨S, 0, none⟩), .pointer (some ⟨g, 0, none⟩), .slice none 0 0, .map (some M1), .map (some M2), .map (some b), .nilFunc]) w := by kernel_rfl
@[go_sem ↓] theorem Tryz.make_mr (w : World) : (Instr.makeMap 128 none).run Tryz.prog w = .ok (.map (some w.heap.size)) (w.alloc (.map #[] 0)) := by kernel_rfl
theorem Bg.setq {own0 : Tags} {w W0 : World} {S pR pC pS pN : Nat} {ids jds : List Id} {own : Tags} {h g Mv Mn Bd M M4 M5 : Nat} {pv fl : List (Id × Value)} {W : World} (H : Bg own0 w S pR pC pS pN ids jds own h g Mv Mn Bd M M4 M5 pv fl W) {k : Nat} {u : Value} (hk : Blk W k 124 #[u]) (h1 : W0.heap.size ≤ k) (hN : w.heap.size ≤ W0.heap.size ∧ ∀ j, own j ≠ 0 → j < W0.heap.size) (v : Value) : Bg own0 w S pR pC pS pN ids jds own h g Mv Mn Bd M M4 M5 pv fl (W.setCell ⟨k, 0, none⟩ v) := by
  have hW : ∀ j, j ≠ k → (W.setCell ⟨k, 0, none⟩ v).heap[j]? = W.heap[j]? := fun j hj => Below.heap_setCell _ _ _ _ hj
  have ho : own k = 0 := by
    rcases Nat.eq_zero_or_pos (own k) with e | e
    · exact e
    · have := hN.2 k (by omega); omega
  have s1 : Same 1 own W own (W.setCell ⟨k, 0, none⟩ v) := Same.setCell (by show own k ≠ 1; omega) v
  have s2 : Same 2 own W own (W.setCell ⟨k, 0, none⟩ v) := Same.setCell (by show own k ≠ 2; omega) v
  exact ⟨H.sh.kept (hW _ (blk_ne H.sh hk (by decide))), ⟨H.ax.r.keep s1, H.ax.c.keep s2⟩, H.hb.kept (hW _ (blk_ne H.hb hk (by decide))), H.gb.kept (hW _ (blk_ne H.gb hk (by decide))),
    ⟨H.sp.blk.kept (hW _ (blk_ne H.sp.blk hk (by decide))), H.sp.map.kept (hW _ (map_ne H.sp.map hk)), H.sp.m4.kept (hW _ (map_ne H.sp.m4 hk)), H.sp.m5.kept (hW _ (map_ne H.sp.m5 hk)), H.sp.ne⟩, H.mv.kept (hW _ (map_ne H.mv hk)), H.mn.kept (hW _ (map_ne H.mn hk)), H.ne, H.new, H.ch.set (fun hl => by simp at hl; omega) v⟩
def b3I (W0 : World) (own0 : Tags) (w : World) (S pR pC pS pN : Nat) (ids jds : List Id) (own : Tags) (h g Mv Mn Bd M M4 M5 : Nat) (u10 u11 u12 u13 u14 u15 u16 u17 u18 u19 u20 u21 u22 u23 : Value) (_ : Unit) (a : Act) (W : World) : Prop := ∃ v4 v36 v37 v38 v39 v40 v41 v42 v43 v44 v45 v46 v47 v48 v49 v50, a = b3F S h g Bd ids.length jds.length u10 u11 u12 u13 u14 u15 u16 u17 u18 u19 u20 u21 u22 u23 v4 v36 v37 v38 v39 v40 v41 v42 v43 v44 v45 v46 v47 v48 v49 v50 ∧ (W0.heap.size ≤ W.heap.size ∧ Bg own0 w S pR pC pS pN ids jds own h g Mv Mn Bd M M4 M5 [] [] W)
def Bg3 (W3 : World) (own0 : Tags) (w : World) (S pR pC pS pN : Nat) (ids jds : List Id) (own : Tags) (h g Mv Mn Bd M M4 M5 : Nat) (u10 u11 u12 u13 u14 u15 u16 u17 u18 u19 u20 u21 u22 u23 : Value) (a : Act) (W : World) : Prop :=
  ∃ k q M1 M2 mx v36 v37 v38 v39 v40 v41 v42 v43 v44 v45 v46 v47 v48 v49 v50, a = b3F S h g Bd ids.length jds.length u10 u11 u12 u13 u14 u15 u16 u17 u18 u19 u20 u21 u22 u23 (.pointer (some ⟨k, 0, none⟩)) v36 v37 v38 v39 v40 v41 v42 v43 v44 v45 v46 v47 v48 v49 v50 ∧ W3.heap.size ≤ k ∧ Blk W k 124 #[.pointer (some ⟨q, 0, none⟩)] ∧ QB W3 W S g ids jds q M1 M2 mx ∧ (W3.heap.size ≤ W.heap.size ∧ Bg own0 w S pR pC pS pN ids jds own h g Mv Mn Bd M M4 M5 [] [] W)
end Go.Proofs.YtoicnghjjgkebaaGreatDoor
namespace Go.Proofs.YtoicnghjjgkebaaGreatDoor
open Go.RowKit Go.Shelf
/-- The typed values by their places. -/
def pvs (ids jds : List Id) (xs : List (Cel × Val)) : List (Id × Value) := xs.foldl (fun m x => if inI ids x.1.1 && inI jds x.1.2 then putG (atI ids x.1.1, atI jds x.1.2) (valv x.2) m else m) []
theorem pvs_snoc (ids jds : List Id) (xs : List (Cel × Val)) (x : Cel × Val) : pvs ids jds (xs ++ [x]) = if inI ids x.1.1 && inI jds x.1.2 then putG (atI ids x.1.1, atI jds x.1.2) (valv x.2) (pvs ids jds xs) else pvs ids jds xs := by simp [pvs]
theorem atI_lt {ids : List Id} {k : Id} (h : inI ids k = true) : 0 ≤ atI ids k ∧ atI ids k < ids.length := by
  unfold inI at h
  have hm : k ∈ ids := of_decide_eq_true h
  unfold atI
  rw [if_pos hm]
  have := List.idxOf_lt_length_of_mem hm
  omega
/-- The cell of two numbers. -/
def celN (i k : Nat) : Cel := ((0, ((i + 1 : Nat) : Int)), (0, ((k + 1 : Nat) : Int)))
theorem idsN_get {n i : Nat} (h : i < n) : (idsN n)[i]? = some (0, ((i + 1 : Nat) : Int)) := by simp [idsN, h]
theorem idsN_nodup (n : Nat) : (idsN n).Nodup := by
  unfold idsN
  rw [List.nodup_iff_pairwise_ne, List.pairwise_map]
  refine (List.nodup_iff_pairwise_ne.1 List.nodup_range).imp ?_
  intro a b hab e
  have := congrArg Prod.snd e
  simp at this
  omega
theorem atI_idsN {n i : Nat} (h : i < n) : atI (idsN n) (0, ((i + 1 : Nat) : Int)) = i := by
  have hm : (0, ((i + 1 : Nat) : Int)) ∈ idsN n := (mem_idsN _ _).2 ⟨rfl, by simp; omega, by simp; omega⟩
  unfold atI
  rw [if_pos hm]
  have hl : i < (idsN n).length := by rw [idsN_len]; exact h
  have he : (idsN n)[i] = (0, ((i + 1 : Nat) : Int)) := by
    have := idsN_get h
    rw [List.getElem?_eq_getElem hl] at this
    exact Option.some.inj this
  rw [← he, (idsN_nodup n).idxOf_getElem i hl]
theorem atI_inj {n : Nat} {z : Id} (h : inI (idsN n) z = true) : z = (0, atI (idsN n) z + 1) := by
  have hm : z ∈ idsN n := of_decide_eq_true h
  obtain ⟨h1, h2, h3⟩ := (mem_idsN _ _).1 hm
  obtain ⟨i, hi⟩ : ∃ i : Nat, z.2 = ((i + 1 : Nat) : Int) := ⟨z.2.toNat - 1, by omega⟩
  have he : z = (0, ((i + 1 : Nat) : Int)) := Prod.ext h1 hi
  have hlt : i < n := by omega
  rw [he, atI_idsN hlt]
  simp
theorem getG_snoc {K α : Type} [DecidableEq K] (k : K) (x : K × α) : ∀ l : List (K × α), getG k (l ++ [x]) = match getG k l with | some v => some v | none => if x.1 = k then some x.2 else none
  | [] => by simp [getG]
  | (q, v) :: r => by
    simp only [List.cons_append, getG]
    split
    · rfl
    · exact getG_snoc k x r
theorem pvs_get (R C i k : Nat) (hi : i < R) (hk : k < C) : ∀ (n : Nat) (xs : List (Cel × Val)), xs.length = n → (xs.map Prod.fst).Nodup → getG ((i : Int), (k : Int)) (pvs (idsN R) (idsN C) xs) = (getG (celN i k) xs).map valv
  | 0, xs, hn, _ => by
    obtain rfl := List.length_eq_zero_iff.1 hn
    rfl
  | n + 1, xs, hn, hd => by
    obtain ⟨ys, x, rfl⟩ := snoc_of (l := xs) (by omega)
    have hys : ys.length = n := by simpa using hn
    rw [List.map_append, List.nodup_append] at hd
    have ih := pvs_get R C i k hi hk n ys hys hd.1
    have hx : x.1 ∉ ys.map Prod.fst := fun hm => hd.2.2 _ hm x.1 (by simp) rfl
    rw [pvs_snoc, getG_snoc]
    split
    · rename_i hb
      rw [Bool.and_eq_true] at hb
      rw [getG_put]
      by_cases e : x.1 = celN i k
      · rw [← e, getG_none hx, if_pos rfl, e, if_pos ?_]
        · rfl
        · simp only [celN]
          rw [atI_idsN hi, atI_idsN hk]
      · rw [if_neg, ih]
        · cases getG (celN i k) ys with
          | some v => rfl
          | none => simp [e]
        · intro h
          refine e ?_
          obtain ⟨h1, h2⟩ := Prod.ext_iff.1 h
          simp only at h1 h2
          have e1 := atI_inj hb.1
          have e2 := atI_inj hb.2
          rw [h1] at e1
          rw [h2] at e2
          exact Prod.ext (by rw [e1]; simp [celN]) (by rw [e2]; simp [celN])
    · rename_i hb
      rw [ih]
      by_cases e : x.1 = celN i k
      · refine absurd ?_ hb
        rw [e, Bool.and_eq_true]
        exact ⟨decide_eq_true ((mem_idsN _ _).2 ⟨rfl, by simp [celN]; omega, by simp [celN]; omega⟩), decide_eq_true ((mem_idsN _ _).2 ⟨rfl, by simp [celN]; omega, by simp [celN]; omega⟩)⟩
      · cases getG (celN i k) ys with
        | some v => rfl
        | none => simp [e]
/-- Is it a cell's place? -/
def isC (x : Cel) : Bool := !(ideq x.1.1 x.1.2 0 0) && !(ideq x.2.1 x.2.2 0 0)
/-- What a thing typed does to the cells. -/
def stepK (kvs : List (Cel × Val)) (c : Cel × Int × Val) : List (Cel × Val) := if isC c.1 then (if c.2.1 = 0 then delG c.1 kvs else putG c.1 c.2.2 kvs) else kvs
/-- Its number in the list of all places. -/
def idx (R C : Nat) (x : Cel) : Option Nat := if x.1.1 = 0 ∧ 1 ≤ x.1.2 ∧ x.1.2 ≤ R ∧ x.2.1 = 0 ∧ 1 ≤ x.2.2 ∧ x.2.2 ≤ C then some ((x.1.2.toNat - 1) * C + (x.2.2.toNat - 1)) else none
def stepL {α : Type} (R C : Nat) (L : List α) (x : Cel) (c : α) : List α := match idx R C x with
  | some j => L.set j c
  | none => L
theorem celN_idx {R C i k : Nat} (hi : i < R) (hk : k < C) : idx R C (celN i k) = some (i * C + k) := by
  unfold idx celN
  rw [if_pos ⟨rfl, by simp; omega, by simp; omega, rfl, by simp; omega, by simp; omega⟩]
  simp
theorem idx_celN {R C : Nat} {x : Cel} {j : Nat} (h : idx R C x = some j) : ∃ i k, i < R ∧ k < C ∧ x = celN i k ∧ j = i * C + k := by
  unfold idx at h
  split at h
  · rename_i hc
    obtain ⟨h1, h2, h3, h4, h5, h6⟩ := hc
    obtain ⟨⟨a, b⟩, c, d⟩ := x
    simp only at h1 h2 h3 h4 h5 h6 h
    refine ⟨b.toNat - 1, d.toNat - 1, by omega, by omega, ?_, (Option.some.inj h).symm⟩
    unfold celN
    rw [h1, h4, show (((b.toNat - 1 + 1 : Nat)) : Int) = b by omega, show (((d.toNat - 1 + 1 : Nat)) : Int) = d by omega]
  · cases h
theorem mul_inj {C i k i' k' : Nat} (hk : k < C) (hk' : k' < C) (h : i * C + k = i' * C + k') : i = i' ∧ k = k' := by
  have h1 : i = i' := by
    have e1 : (i * C + k) / C = i := by rw [Nat.mul_comm, Nat.mul_add_div (by omega), Nat.div_eq_of_lt hk, Nat.add_zero]
    have e2 : (i' * C + k') / C = i' := by rw [Nat.mul_comm, Nat.mul_add_div (by omega), Nat.div_eq_of_lt hk', Nat.add_zero]
    rw [← e1, ← e2, h]
  subst h1
  exact ⟨rfl, by omega⟩
theorem idx_lt {R C : Nat} {x : Cel} {j : Nat} (h : idx R C x = some j) : j < R * C := by
  obtain ⟨i, k, hi, hk, -, rfl⟩ := idx_celN h
  calc i * C + k < i * C + C := by omega
    _ = (i + 1) * C := by rw [Nat.succ_mul]
    _ ≤ R * C := Nat.mul_le_mul_right _ hi
/-- All places' contents, and the cells, tell the same. -/
structure Agree (R C : Nat) (kvs : List (Cel × Val)) (L : List (Int × Val)) : Prop where
  nd : (kvs.map Prod.fst).Nodup
  len : L.length = R * C
  eq : ∀ i k, i < R → k < C → (L[i * C + k]?).map Prod.snd = some ((getG (celN i k) kvs).getD zeroV)
theorem Agree.zero (R C : Nat) : Agree R C [] (List.replicate (R * C) (0, zeroV)) := ⟨List.nodup_nil, by simp, fun i k hi hk => by
  rw [List.getElem?_replicate, if_pos (idx_lt (celN_idx hi hk))]
  rfl⟩
theorem delG_nodup {K α : Type} [DecidableEq K] {k : K} {l : List (K × α)} (h : (l.map Prod.fst).Nodup) : ((delG k l).map Prod.fst).Nodup := h.sublist ((delG_sub k l).map _)
theorem Agree.step {R C : Nat} {kvs : List (Cel × Val)} {L : List (Int × Val)} (h : Agree R C kvs L) (c : Cel × Int × Val) (hc : c.2.1 = 0 → c.2.2 = zeroV) : Agree R C (stepK kvs c) (stepL R C L c.1 c.2) := by
  obtain ⟨x, t, v⟩ := c
  simp only at hc ⊢
  refine ⟨?_, ?_, ?_⟩
  · unfold stepK
    split
    · split
      · exact delG_nodup h.nd
      · exact putG_nodup h.nd
    · exact h.nd
  · unfold stepL
    split
    · rw [List.length_set]; exact h.len
    · exact h.len
  · intro i k hi hk
    have hcel : isC (celN i k) = true := by
      unfold isC celN ideq
      simp
      omega
    have hg : getG (celN i k) (stepK kvs (x, t, v)) = if x = celN i k then (if t = 0 then none else some v) else getG (celN i k) kvs := by
      unfold stepK
      by_cases e : x = celN i k
      · subst e
        rw [if_pos rfl]
        simp only [hcel, if_true]
        split
        · rw [getG_del _ _ _ h.nd, if_pos rfl]
        · rw [getG_put, if_pos rfl]
      · rw [if_neg e]
        split
        · split
          · rw [getG_del _ _ _ h.nd, if_neg e]
          · rw [getG_put, if_neg e]
        · rfl
    rw [hg]
    unfold stepL
    by_cases e : x = celN i k
    · subst e
      rw [celN_idx hi hk, if_pos rfl]
      simp only
      rw [List.getElem?_set_self (by rw [h.len]; exact idx_lt (celN_idx hi hk))]
      by_cases e0 : t = 0
      · rw [if_pos e0, hc e0]; rfl
      · rw [if_neg e0]; rfl
    · rw [if_neg e]
      split
      · rename_i j hj
        obtain ⟨i', k', hi', hk', rfl, rfl⟩ := idx_celN hj
        rw [List.getElem?_set_ne (fun e2 => e (by obtain ⟨rfl, rfl⟩ := mul_inj hk' hk e2; rfl))]
        exact h.eq i k hi hk
      · exact h.eq i k hi hk
/-- What the result shows is what all places hold. -/
theorem Agree.shows {R C : Nat} {kvs : List (Cel × Val)} {L : List (Int × Val)} (h : Agree R C kvs L) {xs : List (Cel × Val)} (hp : xs.Perm (kvs.filter (placed (idsN R) (idsN C)))) (i k : Nat) (hi : i < R) (hk : k < C) :
    ∃ t v, L[i * C + k]? = some (t, v) ∧ ((getG ((i : Int), (k : Int)) (pvs (idsN R) (idsN C) xs) = some (valv v)) ∨ (getG ((i : Int), (k : Int)) (pvs (idsN R) (idsN C) xs) = none ∧ v = zeroV)) := by
  have he := h.eq i k hi hk
  obtain ⟨⟨t, v⟩, hL, hv⟩ := Option.map_eq_some_iff.1 he
  simp only at hv
  refine ⟨t, v, hL, ?_⟩
  have hn : ((kvs.filter (placed (idsN R) (idsN C))).map Prod.fst).Nodup := h.nd.sublist (List.filter_sublist.map _)
  have hn2 : (xs.map Prod.fst).Nodup := (hp.map _).nodup_iff.2 hn
  rw [pvs_get R C i k hi hk _ xs rfl hn2]
  have hpl : ∀ u, placed (idsN R) (idsN C) (celN i k, u) = true := fun u => decide_eq_true ⟨(mem_idsN _ _).2 ⟨rfl, by simp [celN]; omega, by simp [celN]; omega⟩, (mem_idsN _ _).2 ⟨rfl, by simp [celN]; omega, by simp [celN]; omega⟩⟩
  have hx : getG (celN i k) xs = getG (celN i k) kvs := by
    cases hg : getG (celN i k) kvs with
    | some u =>
      have hm := mem_getG hg
      exact getG_mem hn2 (hp.mem_iff.2 (List.mem_filter.2 ⟨hm, hpl u⟩))
    | none =>
      cases hg2 : getG (celN i k) xs with
      | none => rfl
      | some u =>
        have hm := (List.mem_filter.1 (hp.mem_iff.1 (mem_getG hg2))).1
        rw [getG_mem h.nd hm] at hg
        cases hg
  rw [hx]
  cases hg : getG (celN i k) kvs with
  | some u => rw [hg] at hv; exact .inl (show some (valv u) = some (valv v) from congrArg (fun z => some (valv z)) (show v = u from hv).symm)
  | none => rw [hg] at hv; exact .inr ⟨rfl, hv⟩
end Go.Proofs.YtoicnghjjgkebaaGreatDoor
