/-
  slices.Clone at ids, (*Axis).Between, counterpaneref03.Same. Conditions: slices that can be read; the axis lies in memory as AxisAt says.
-/
import Derived.Test.YtgmlhpkhecbkoaaC6
namespace Go.Proofs.Ytgmlhpkhecbkoaa
open Go.RowKit

@[go_sem ↓] theorem Try.eqlnil22 (w : World) (A : Option Addr) (n c : Nat) : (binOp .eql 22 (.slice A n c) (.slice none 0 0)).run Try.prog w = .ok (.bool A.isNone) w := Lib.run_eql_slice_nil w _ _ A n c 0 0 Try.underlying22

/-- A new list of ids is handed back. -/
def ListP (w : World) (own : Tags) (t : Nat) (l : List Id) (e : Ending) (w' : World) : Prop :=
  ∃ v own', e = .returned v ∧ Tr own t w own' w' ∧ Row w' own' t 24 2 v l.length (idCells l)

theorem IdsR.cells {w : World} {own : Tags} {s : Nat} {a : Addr} {l : List Id} (h : IdsR w own s (some a) l) : ∀ j u, (idCells l)[j]? = some u → w.cell? (a.add j) = some u := by
  intro j u hu
  have hj : j < (idCells l).length := (List.getElem?_eq_some_iff.1 hu).1
  rw [length_idCells] at hj
  obtain ⟨b, off, e, _, _, hc⟩ := h (fun e => by rw [e] at hj; simp at hj)
  cases e
  have hi : j / 2 < l.length := by omega
  obtain ⟨h1, h2⟩ := hc (j / 2) hi
  obtain ⟨e1, e2⟩ := idCells_get l (j / 2) hi
  have add : (⟨b, off, none⟩ : Addr).add j = ⟨b, off + j, none⟩ := by unfold Addr.add; split <;> simp_all
  rw [add]
  rcases Nat.mod_two_eq_zero_or_one j with hm | hm
  · have : j = j / 2 * 2 := by omega
    rw [this, e1] at hu
    rw [this, h1]; exact hu
  · have : j = j / 2 * 2 + 1 := by omega
    rw [this, e2] at hu
    rw [this, ← Nat.add_assoc, h2]; exact hu
theorem idCells_one (l : List Id) : ∀ u ∈ idCells l, u.oneCell' = true := by
  induction l with
  | nil => simp [idCells]
  | cons x l ih =>
    intro u hu
    simp only [idCells, List.mem_cons] at hu
    rcases hu with rfl | rfl | hu
    · rfl
    · rfl
    · exact ih u hu

set_option maxRecDepth 100000 in
set_option maxHeartbeats 1000000 in
theorem clone_none (n c : Nat) (w : World) (own : Tags) (t : Nat) : Calls Try.prog 69 #[.slice none n c] w (ListP w own t []) := by
  go_enter Try.func69, Try.ntmps69
  go_wp2
  go_ret
  exact ⟨_, own, rfl, Tr.refl _ _ _, Row.nil _ _ _ _ _⟩
set_option maxRecDepth 100000 in
set_option maxHeartbeats 1000000 in
theorem clone_some (a : Addr) (n c : Nat) (l : List Id) (w : World) (own : Tags) (s t : Nat) (hR : IdsR w own s (some a) l) (hn : l.length = n) (hm : n ≤ 1000000) :
    Calls Try.prog 69 #[.slice (some a) n c] w (ListP w own t l) := by
  obtain ⟨i0, hi, hi0, hi1, hi2⟩ := info_parts Try.info24
  have hR1 := Lib.hid (hR.keep (w' := w.alloc (.cells #[] 24)) (by simp) (Same.alloc _))
  have Hn := Lib.hid hn
  have hown : (w.alloc (.cells #[] 24)).ownsRow 0 24 2 (.slice (some ⟨w.heap.size, 0, none⟩) 0 0) 0 [] := World.ownsRow_made w #[] 0 (Nat.zero_le _) (Nat.zero_le _) (by simp)
  have HO := Lib.hid hown
  clear hR hn hown
  go_enter Try.func69, Try.ntmps69
  go_wp2_with (at_builtin; refine wpList_append_own_at _ rfl _ _ _ rfl 0 24 i0 _ 2 16 Try.underlying22 hi hi0 hi1 hi2 rfl (by omega) _ _ _ rfl HO.out a n c (idCells l) rfl (by rw [length_idCells, Hn.out]) hR1.out.cells (idCells_one l) (by simp only [maxLen]; omega) (by omega) (Nat.zero_le _) ?_; intro v' w1 hown1 hgrow1 _ hat1)
  go_ret
  have hr0 : Row (w.alloc (.cells #[] 24)) (tagAt own w.heap.size t) t 24 2 (.slice (some ⟨w.heap.size, 0, none⟩) 0 0) 0 [] := ⟨HO.out, fun g hg => by simp [Value.ownBlock] at hg; subst hg; simp [tagAt]⟩
  obtain ⟨own2, tr2, _, r2⟩ := hr0.app (((Tr.refl own t w).alloc (.cells #[] 24)).tag (Nat.le_refl _) (by simp) t) hgrow1 hown1 (hat1.imp id (fun h => ⟨h, (hown1.lt _ h).2⟩))
  exact ⟨v', own2, rfl, tr2, by simpa [Hn.out] using r2⟩
theorem clone_c (A : Option Addr) (n c : Nat) (l : List Id) (w : World) (own : Tags) (s t : Nat) (hR : IdsR w own s A l) (hn : l.length = n) (hm : n ≤ 1000000) :
    Calls Try.prog 69 #[.slice A n c] w (ListP w own t l) := by
  cases A with
  | none =>
    have : l = [] := by
      cases l with
      | nil => rfl
      | cons x r => obtain ⟨_, _, e, _⟩ := hR (by simp); cases e
    subst this
    exact clone_none n c w own t
  | some a => exact clone_some a n c l w own s t hR hn hm

/-! ### Between -/
def betweenL (ids : List Id) (live : List Bool) (a b : Id) : List Id :=
  if a ∈ ids ∧ b ∈ ids then
    (aliveOf (ids.take (max (ids.idxOf a) (ids.idxOf b) + 1)) (live.take (max (ids.idxOf a) (ids.idxOf b) + 1))).drop (aliveOf (ids.take (min (ids.idxOf a) (ids.idxOf b))) (live.take (min (ids.idxOf a) (ids.idxOf b)))).length
  else []
theorem aheadOf_at (ids : List Id) (live : List Bool) (h : live.length = ids.length) (k : Nat) (hk : k < ids.length) : (aheadOf live 0)[k]? = some (.int .i64 ((aliveOf (ids.take k) (live.take k)).length : Int)) := by
  have e := aheadOf_snoc ids live h k hk 0
  have hl : (aheadOf (live.take k) 0).length = k := by rw [length_aheadOf]; simp; omega
  have : aheadOf live 0 = aheadOf (live.take (k + 1) ++ live.drop (k + 1)) 0 := by rw [List.take_append_drop]
  have app : ∀ (l m : List Bool) (c : Nat), ∃ d, aheadOf (l ++ m) c = aheadOf l c ++ aheadOf m d := by
    intro l m
    induction l with
    | nil => intro c; exact ⟨c, rfl⟩
    | cons b l ih => intro c; obtain ⟨d, hd⟩ := ih (if b then c + 1 else c); exact ⟨d, by simp [aheadOf, hd]⟩
  obtain ⟨d, hd⟩ := app (live.take (k + 1)) (live.drop (k + 1)) 0
  rw [this, hd, e, List.append_assoc, List.getElem?_append_right (by omega), hl]
  simp
theorem aliveOf_take (ids : List Id) (live : List Bool) (h : live.length = ids.length) (k : Nat) : aliveOf (ids.take k) (live.take k) = (aliveOf ids live).take (aliveOf (ids.take k) (live.take k)).length := by
  induction ids generalizing live k with
  | nil => simp [aliveOf]
  | cons x r ih =>
    cases live with
    | nil => simp at h
    | cons b bs =>
      cases k with
      | zero => simp [aliveOf]
      | succ k =>
        simp only [List.take_succ_cons, aliveOf]
        have := ih bs (by simpa using h) k
        cases b
        · simpa using this
        · simp only [if_true, List.length_cons, List.take_succ_cons, List.cons.injEq, true_and]; exact this
theorem alive_mono (ids : List Id) (live : List Bool) (h : live.length = ids.length) (j k : Nat) (hjk : j ≤ k) : (aliveOf (ids.take j) (live.take j)).length ≤ (aliveOf (ids.take k) (live.take k)).length := by
  have e := aliveOf_take (ids.take k) (live.take k) (by simp; omega) j
  rw [List.take_take, List.take_take, Nat.min_eq_left hjk] at e
  rw [e]; simp; omega

theorem IdsR.cut {w : World} {own : Tags} {s : Nat} {A : Option Addr} {l : List Id} (h : IdsR w own s A l) {lo hi cap : Nat} (hlh : lo ≤ hi) (hh : hi ≤ l.length) (hc : l.length ≤ cap) :
    IdsR w own s (if cap = lo then A else A.map (·.add (lo * 2))) ((l.take hi).drop lo) := fun hl => by
  have hlt : lo < hi := by
    rcases Nat.lt_or_ge lo hi with h1 | h1
    · exact h1
    · exact absurd (List.drop_eq_nil_iff.2 (by simp; omega)) hl
  obtain ⟨b, off, rfl, ho, hb, hcell⟩ := h (fun e => by rw [e] at hh; simp at hh; omega)
  rw [if_neg (by omega)]
  refine ⟨b, off + lo * 2, ?_, ho, hb, fun i hi' => ?_⟩
  · simp only [Option.map_some]; unfold Addr.add; split <;> simp_all
  · simp only [List.length_drop, List.length_take] at hi'
    obtain ⟨h1, h2⟩ := hcell (lo + i) (by omega)
    have e1 : ((l.take hi).drop lo)[i]'(by simp; omega) = l[lo + i]'(by omega) := by simp
    rw [e1, show off + lo * 2 + i * 2 = off + (lo + i) * 2 by omega]
    exact ⟨h1, h2⟩

theorem two_kept {w w1 : World} {own own1 : Tags} {t : Nat} {e e' : TypeId} {cs cs' : Array Value} (hf : Fresh own w) (ht : t ≠ 0) (tr1 : Tr own t ((w.alloc (.cells cs e)).alloc (.cells cs' e')) own1 w1) : Blk w1 w.heap.size e cs ∧ Blk w1 (w.heap.size + 1) e' cs' := by
  have h0 : own w.heap.size = 0 := hf.new (Nat.le_refl _)
  have h1 : own (w.heap.size + 1) = 0 := hf.new (by omega)
  refine ⟨((Blk.new w e cs).alloc _).kept (tr1.block _ (by simp; omega) (by rw [h0]; exact ht.symm)), ?_⟩
  have := (Blk.new (w.alloc (.cells cs e)) e' cs').kept (tr1.block _ (by simp) (by simp only [World.size_alloc]; rw [h1]; exact ht.symm))
  simpa using this
theorem Row.cap {w : World} {own : Tags} {t : Nat} {e : TypeId} {size : Nat} {A : Option Addr} {n c : Nat} {xs : List Value} (h : Row w own t e size (.slice A n c) n xs) : n ≤ c := by
  rcases h.1.2 with ⟨hv, h0⟩ | ⟨g, cap, cur, hv, _, _, h1, _⟩
  · omega
  · injection hv with _ _ hv; omega

theorem IdsR.cut_eq {w : World} {own : Tags} {s : Nat} {A : Option Addr} {l : List Id} {lo hi cap : Nat} (hh : hi ≤ l.length) (hc : l.length ≤ cap) (e : cap = lo) : IdsR w own s A ((l.take hi).drop lo) := fun hl =>
  absurd (List.drop_eq_nil_iff.2 (by simp; omega)) hl
theorem IdsR.cut_ne {w : World} {own : Tags} {s : Nat} {A : Option Addr} {l : List Id} (h : IdsR w own s A l) {lo hi cap : Nat} (hlh : lo ≤ hi) (hh : hi ≤ l.length) (hc : l.length ≤ cap) (e : ¬ cap = lo) :
    IdsR w own s (Option.map (fun x => x.add (lo * 2)) A) ((l.take hi).drop lo) := by have := h.cut hlh hh hc; rwa [if_neg e] at this
theorem length_cut (l : List Id) {lo hi : Nat} (hh : hi ≤ l.length) : ((l.take hi).drop lo).length = hi - lo := by simp; omega

set_option maxRecDepth 100000 in
set_option maxHeartbeats 2000000 in
theorem between_some (w : World) (own : Tags) (t u p : Nat) (ids : List Id) (live : List Bool) (x1 x2 y1 y2 : Int) (i j : Nat) (h : AxisAt w own t p ids live) (hf : Fresh own w) (ht : t ≠ 0) (hi : (x1, x2) ∈ ids) (hj : (y1, y2) ∈ ids)
    (ei : ids.idxOf (x1, x2) = i) (ej : ids.idxOf (y1, y2) = j) :
    Calls Try.prog 36 #[.pointer (some ⟨p, 0, none⟩), .agg #[.int .i64 x1, .int .i64 x2], .agg #[.int .i64 y1, .int .i64 y2]] w fun e w' => ∃ own1 w1, Tr own t w own1 w1 ∧ AxisAt w1 own1 t p ids live ∧ ListP w1 own1 u (betweenL ids live (x1, x2) (y1, y2)) e w' := by
  have hr := Lib.hid (fun o1 o2 => ready_c ((w.alloc o1).alloc o2) own t p ids live ((h.keep (Same.alloc o1)).keep (Same.alloc o2)))
  have H := Lib.hid h
  have HF := Lib.hid hf
  have HT0 := Lib.hid ht
  have hk1 := Lib.hid (getKV_spots (x1, x2) ids 0)
  have hk2 := Lib.hid (getKV_spots (y1, y2) ids 0)
  rw [if_pos hi, ei, Nat.zero_add] at hk1
  rw [if_pos hj, ej, Nat.zero_add] at hk2
  have hil : i < live.length := by rw [h.len, ← ei]; exact List.idxOf_lt_length_iff.2 hi
  have hjl : j < live.length := by rw [h.len, ← ej]; exact List.idxOf_lt_length_iff.2 hj
  have hlen := Lib.hid h.len
  have hle := h.le
  have hbl : Hid (betweenL ids live (x1, x2) (y1, y2) = (aliveOf (ids.take (max i j + 1)) (live.take (max i j + 1))).drop (aliveOf (ids.take (min i j)) (live.take (min i j))).length) := by
    show _ = _
    unfold betweenL; rw [if_pos ⟨hi, hj⟩, ei, ej]
  clear h hf ht hi hj ei ej
  rcases Nat.lt_or_ge j i with hij | hij
  · have hmx : max i j = i := by omega
    have hmn : min i j = j := by omega
    have hbl2 : Hid (betweenL ids live (x1, x2) (y1, y2) = ((aliveOf ids live).take (aliveOf (ids.take (i + 1)) (live.take (i + 1))).length).drop (aliveOf (ids.take j) (live.take j)).length) := by
      show _ = _
      rw [hbl.out, hmx, hmn, ← aliveOf_take ids live hlen.out (i + 1)]
    have hq1 := Lib.hid (aheadOf_at ids live hlen.out j (by rw [← hlen.out]; omega))
    have hq2 := Lib.hid (aheadOf_at ids live hlen.out i (by rw [← hlen.out]; omega))
    have hsn := Lib.hid (aliveOf_snoc ids live hlen.out i (by rw [← hlen.out]; omega))
    have hlv := Lib.hid (List.getElem?_eq_getElem hil)
    have hmo := alive_mono ids live hlen.out j i (by omega)
    have hlast : (aliveOf (ids.take (i + 1)) (live.take (i + 1))).length ≤ (aliveOf ids live).length := by rw [aliveOf_take ids live hlen.out (i + 1)]; simp; omega
    have hal := Nat.le_trans (length_aliveOf ids live) hle
    clear hbl hmx hmn
    generalize live[i] = b at *
    have hln : (aliveOf (ids.take (i + 1)) (live.take (i + 1))).length = (aliveOf (ids.take i) (live.take i)).length + (if b then 1 else 0) := by rw [hsn.out]; cases b <;> simp
    generalize (aliveOf (ids.take j) (live.take j)).length = q1 at *
    generalize (aliveOf (ids.take (i + 1)) (live.take (i + 1))).length = q3 at *
    generalize (aliveOf (ids.take i) (live.take i)).length = q2 at *
    clear hsn
    have hfi : (j : Int) < (live.length : Int) := by omega
    have hli : (i : Int) < (live.length : Int) := by omega
    have hf0 : (0 : Int) ≤ (j : Int) := by omega
    have hl0 : (0 : Int) ≤ (i : Int) := by omega
    cases b
    all_goals
      simp only [Bool.false_eq_true, if_false, if_true, Nat.add_zero] at hln
      subst hln
      go_enter Try.func36, Try.ntmps36
      go_wp2_with fail
      refine (hr.out _ _).mono ?_
      rintro e w1 ⟨rfl, own1, tr1, r1⟩
      obtain ⟨hb1, hb2⟩ := two_kept HF.out HT0.out tr1
      have b0 := hb1.cell 0
      have b1 := hb1.cell 1
      have b2 := hb2.cell 0
      have b3 := hb2.cell 1
      simp at b0 b1 b2 b3
      obtain ⟨vI, vL, s, g, vV, a, m⟩ := id r1
      obtain ⟨bL, offL, c, rfl, hbL, _, g1⟩ := a.rL.boolAt hlv.out
      obtain ⟨A, cV, rfl, _⟩ := m.rV.form
      have hcap := m.rV.cap
      have c1 := a.blk.cell 1
      have c2 := a.blk.cell 2
      have c3 := a.blk.cell 3
      have c4 := a.blk.cell 4
      have g3 := m.ahead.cell j
      have g4 := m.ahead.cell i
      simp at c1 c2 c3 c4
      rw [List.getElem?_toArray, hq1.out] at g3
      rw [List.getElem?_toArray, hq2.out] at g4
      have hlk1 := fun (nq : Nat) => MapIs.look (w := w1.drewN nq) m.map Try.underlying70 (zero3 _) (x1, x2) true
      have hlk2 := fun (nq : Nat) => MapIs.look (w := w1.drewN nq) m.map Try.underlying70 (zero3 _) (y1, y2) true
      simp only [idv, if_true, hk1.out, hk2.out, Option.getD_some, Option.isSome_some] at hlk1 hlk2
      have hids := Lib.hid m.rV.toIdsR.2
      have HT := Lib.hid tr1
      have HR := Lib.hid r1
      clear hb1 hb2 tr1 r1 a m
      go_wp2
      go_quiet (fail)
      go_wp2
      go_quiet (fail)
      go_wp2
      refine region_tail 13 (by kernel_rfl) (by kernel_rfl) ?_
      simp only [List.take_succ_cons, List.take_zero, List.drop_succ_cons, List.drop_zero]
      repeat (go_big_quiet_step (fail))
      refine wpQuiet_nil ?_
      go_wp2_with fail
      all_goals
        first
        | refine (clone_c _ _ _ _ _ own1 t u (IdsR.cut_eq hlast hcap (by omega)) (length_cut _ hlast) (by omega)).mono ?_
        | refine (clone_c _ _ _ _ _ own1 t u (IdsR.cut_ne (hids.out.keep (by simp) (Same.drewN _)) (by omega) hlast hcap (by omega)) (length_cut _ hlast) (by omega)).mono ?_
        rintro e w2 ⟨v, own2, rfl, tr2, row2⟩
        have H2 := Lib.hid tr2
        have RW := Lib.hid row2
        clear tr2 row2
        go_wp2
        go_ret
        exact ⟨own1, _, ((((Tr.refl own t w).alloc _).alloc _).trans HT.out).drewN _, (HR.out.at_ H.out).keep (Same.drewN _), v, own2, rfl, H2.out, by rw [hbl2.out]; exact RW.out⟩
  · have hmx : max i j = j := by omega
    have hmn : min i j = i := by omega
    have hbl2 : Hid (betweenL ids live (x1, x2) (y1, y2) = ((aliveOf ids live).take (aliveOf (ids.take (j + 1)) (live.take (j + 1))).length).drop (aliveOf (ids.take i) (live.take i)).length) := by
      show _ = _
      rw [hbl.out, hmx, hmn, ← aliveOf_take ids live hlen.out (j + 1)]
    have hq1 := Lib.hid (aheadOf_at ids live hlen.out i (by rw [← hlen.out]; omega))
    have hq2 := Lib.hid (aheadOf_at ids live hlen.out j (by rw [← hlen.out]; omega))
    have hsn := Lib.hid (aliveOf_snoc ids live hlen.out j (by rw [← hlen.out]; omega))
    have hlv := Lib.hid (List.getElem?_eq_getElem hjl)
    have hmo := alive_mono ids live hlen.out i j (by omega)
    have hlast : (aliveOf (ids.take (j + 1)) (live.take (j + 1))).length ≤ (aliveOf ids live).length := by rw [aliveOf_take ids live hlen.out (j + 1)]; simp; omega
    have hal := Nat.le_trans (length_aliveOf ids live) hle
    clear hbl hmx hmn
    generalize live[j] = b at *
    have hln : (aliveOf (ids.take (j + 1)) (live.take (j + 1))).length = (aliveOf (ids.take j) (live.take j)).length + (if b then 1 else 0) := by rw [hsn.out]; cases b <;> simp
    generalize (aliveOf (ids.take i) (live.take i)).length = q1 at *
    generalize (aliveOf (ids.take (j + 1)) (live.take (j + 1))).length = q3 at *
    generalize (aliveOf (ids.take j) (live.take j)).length = q2 at *
    clear hsn
    have hfi : (i : Int) < (live.length : Int) := by omega
    have hli : (j : Int) < (live.length : Int) := by omega
    have hf0 : (0 : Int) ≤ (i : Int) := by omega
    have hl0 : (0 : Int) ≤ (j : Int) := by omega
    cases b
    all_goals
      simp only [Bool.false_eq_true, if_false, if_true, Nat.add_zero] at hln
      subst hln
      go_enter Try.func36, Try.ntmps36
      go_wp2_with fail
      refine (hr.out _ _).mono ?_
      rintro e w1 ⟨rfl, own1, tr1, r1⟩
      obtain ⟨hb1, hb2⟩ := two_kept HF.out HT0.out tr1
      have b0 := hb1.cell 0
      have b1 := hb1.cell 1
      have b2 := hb2.cell 0
      have b3 := hb2.cell 1
      simp at b0 b1 b2 b3
      obtain ⟨vI, vL, s, g, vV, a, m⟩ := id r1
      obtain ⟨bL, offL, c, rfl, hbL, _, g1⟩ := a.rL.boolAt hlv.out
      obtain ⟨A, cV, rfl, _⟩ := m.rV.form
      have hcap := m.rV.cap
      have c1 := a.blk.cell 1
      have c2 := a.blk.cell 2
      have c3 := a.blk.cell 3
      have c4 := a.blk.cell 4
      have g3 := m.ahead.cell i
      have g4 := m.ahead.cell j
      simp at c1 c2 c3 c4
      rw [List.getElem?_toArray, hq1.out] at g3
      rw [List.getElem?_toArray, hq2.out] at g4
      have hlk1 := fun (nq : Nat) => MapIs.look (w := w1.drewN nq) m.map Try.underlying70 (zero3 _) (x1, x2) true
      have hlk2 := fun (nq : Nat) => MapIs.look (w := w1.drewN nq) m.map Try.underlying70 (zero3 _) (y1, y2) true
      simp only [idv, if_true, hk1.out, hk2.out, Option.getD_some, Option.isSome_some] at hlk1 hlk2
      have hids := Lib.hid m.rV.toIdsR.2
      have HT := Lib.hid tr1
      have HR := Lib.hid r1
      clear hb1 hb2 tr1 r1 a m
      go_wp2
      go_quiet (fail)
      go_wp2
      go_quiet (fail)
      go_wp2
      refine region_tail 13 (by kernel_rfl) (by kernel_rfl) ?_
      simp only [List.take_succ_cons, List.take_zero, List.drop_succ_cons, List.drop_zero]
      repeat (go_big_quiet_step (fail))
      refine wpQuiet_nil ?_
      go_wp2_with fail
      all_goals
        first
        | refine (clone_c _ _ _ _ _ own1 t u (IdsR.cut_eq hlast hcap (by omega)) (length_cut _ hlast) (by omega)).mono ?_
        | refine (clone_c _ _ _ _ _ own1 t u (IdsR.cut_ne (hids.out.keep (by simp) (Same.drewN _)) (by omega) hlast hcap (by omega)) (length_cut _ hlast) (by omega)).mono ?_
        rintro e w2 ⟨v, own2, rfl, tr2, row2⟩
        have H2 := Lib.hid tr2
        have RW := Lib.hid row2
        clear tr2 row2
        go_wp2
        go_ret
        exact ⟨own1, _, ((((Tr.refl own t w).alloc _).alloc _).trans HT.out).drewN _, (HR.out.at_ H.out).keep (Same.drewN _), v, own2, rfl, H2.out, by rw [hbl2.out]; exact RW.out⟩

set_option maxRecDepth 100000 in
set_option maxHeartbeats 1000000 in
theorem between_none (w : World) (own : Tags) (t u p : Nat) (ids : List Id) (live : List Bool) (x1 x2 y1 y2 : Int) (h : AxisAt w own t p ids live) (hf : Fresh own w) (ht : t ≠ 0) (hij : ¬ ((x1, x2) ∈ ids ∧ (y1, y2) ∈ ids)) :
    Calls Try.prog 36 #[.pointer (some ⟨p, 0, none⟩), .agg #[.int .i64 x1, .int .i64 x2], .agg #[.int .i64 y1, .int .i64 y2]] w fun e w' => ∃ own1 w1, Tr own t w own1 w1 ∧ AxisAt w1 own1 t p ids live ∧ ListP w1 own1 u (betweenL ids live (x1, x2) (y1, y2)) e w' := by
  have hr := Lib.hid (fun o1 o2 => ready_c ((w.alloc o1).alloc o2) own t p ids live ((h.keep (Same.alloc o1)).keep (Same.alloc o2)))
  have H := Lib.hid h
  have HF := Lib.hid hf
  have HT0 := Lib.hid ht
  have hk1 := getKV_spots (x1, x2) ids 0
  have hk2 := getKV_spots (y1, y2) ids 0
  have hbl : Hid (betweenL ids live (x1, x2) (y1, y2) = []) := by
    show _ = _
    unfold betweenL; rw [if_neg hij]
  have hs : (∃ v1, getKV (x1, x2) (spotsOf ids 0) = none ∧ getKV (y1, y2) (spotsOf ids 0) = v1) ∨ (∃ i : Nat, getKV (x1, x2) (spotsOf ids 0) = some (.int .i64 i) ∧ getKV (y1, y2) (spotsOf ids 0) = none) := by
    by_cases h1 : (x1, x2) ∈ ids
    · right; rw [if_pos h1] at hk1; rw [if_neg (fun h2 => hij ⟨h1, h2⟩)] at hk2; exact ⟨_, hk1, hk2⟩
    · left; rw [if_neg h1] at hk1; exact ⟨_, hk1, rfl⟩
  have hv2 : ∃ (q : Int) (b2 : Bool), (getKV (y1, y2) (spotsOf ids 0)).getD (.int .i64 0) = .int .i64 q ∧ (getKV (y1, y2) (spotsOf ids 0)).isSome = b2 := by
    rw [hk2]; split
    · exact ⟨_, _, rfl, rfl⟩
    · exact ⟨_, _, rfl, rfl⟩
  obtain ⟨q, b2, hv2, hv3⟩ := hv2
  clear h hf ht hij hk1 hk2
  rcases hs with ⟨v1, hk1, _⟩ | ⟨i, hk1, hk2⟩
  all_goals
    go_enter Try.func36, Try.ntmps36
    go_wp2_with fail
    refine (hr.out _ _).mono ?_
    rintro e w1 ⟨rfl, own1, tr1, r1⟩
    obtain ⟨hb1, hb2⟩ := two_kept HF.out HT0.out tr1
    have b0 := hb1.cell 0
    have b1 := hb1.cell 1
    have b2' := hb2.cell 0
    have b3 := hb2.cell 1
    simp at b0 b1 b2' b3
    obtain ⟨vI, vL, s, g, vV, a, m⟩ := id r1
    have c2 := a.blk.cell 2
    simp at c2
    have hlk1 := fun (nq : Nat) => MapIs.look (w := w1.drewN nq) m.map Try.underlying70 (zero3 _) (x1, x2) true
    have hlk2 := fun (nq : Nat) => MapIs.look (w := w1.drewN nq) m.map Try.underlying70 (zero3 _) (y1, y2) true
    simp only [idv, if_true, hk1, hv2, hv3, Option.getD_some, Option.isSome_some, Option.getD_none, Option.isSome_none] at hlk1 hlk2
    first
    | (rw [hk2] at hv3; simp only [Option.isSome_none] at hv3; subst hv3)
    | skip
    have HT := Lib.hid tr1
    have HR := Lib.hid r1
    clear hb1 hb2 tr1 r1 a m hk1 hv2
    go_wp2
    go_quiet (fail)
    go_wp2
    go_quiet (fail)
    go_wp2
    go_ret
    exact ⟨own1, _, ((((Tr.refl own t w).alloc _).alloc _).trans HT.out).drewN _, (HR.out.at_ H.out).keep (Same.drewN _), _, own1, rfl, Tr.refl _ _ _, by rw [hbl.out]; exact Row.nil _ _ _ _ _⟩

theorem between_c (w : World) (own : Tags) (t u p : Nat) (ids : List Id) (live : List Bool) (x1 x2 y1 y2 : Int) (h : AxisAt w own t p ids live) (hf : Fresh own w) (ht : t ≠ 0) :
    Calls Try.prog 36 #[.pointer (some ⟨p, 0, none⟩), .agg #[.int .i64 x1, .int .i64 x2], .agg #[.int .i64 y1, .int .i64 y2]] w fun e w' => ∃ own1 w1, Tr own t w own1 w1 ∧ AxisAt w1 own1 t p ids live ∧ ListP w1 own1 u (betweenL ids live (x1, x2) (y1, y2)) e w' := by
  by_cases hij : (x1, x2) ∈ ids ∧ (y1, y2) ∈ ids
  · exact between_some w own t u p ids live x1 x2 y1 y2 _ _ h hf ht hij.1 hij.2 rfl rfl
  · exact between_none w own t u p ids live x1 x2 y1 y2 h hf ht hij
end Go.Proofs.Ytgmlhpkhecbkoaa
