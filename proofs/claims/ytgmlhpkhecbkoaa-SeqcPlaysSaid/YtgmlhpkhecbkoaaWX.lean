/-
  (*Shared).Delete: its contract. Condition: the shared axis lies in memory as ShAt says.
  slices.Clone of deletions, maps.Clone, a range over a map keyed by ids. No condition.
  (*Shared).Clone: its contract. Condition: the shared axis lies in memory as ShAt says.
  (*Shared).Axis: its contract. Condition: the shared axis lies in memory as ShAt says; the function value tells whether a deed is in a list.
  law36.live, and the closures of live, SeqcPlays and SeqcTwice: their contracts. Condition: the shared axis lies in memory as ShAt says, and the list of what is gone can be read.
  SeqcTwice: what it computes, at arguments that can be read. No other condition.
-/
import Derived.Test.YtgmlhpkhecbkoaaTC
import Derived.Test.YtgmlhpkhecbkoaaU3
import Derived.Laws.Externs
import Derived.MapKept
import Derived.Maps.RangeRun
import Derived.Test.YtgmlhpkhecbkoaaQ5
import Derived.Maps.RangeWalk
namespace Go.Proofs.Ytgmlhpkhecbkoaa
open Go.RowKit

theorem Try.info113 : (Try.prog.info? 113).map (fun i => (i.zero, i.size, i.bytes)) = some (some (.agg #[.int .i64 0, .int .i64 0, .int .i64 0, .int .i64 0]), 4, 32) := by kernel_rfl

def cutS (first : List Id) (puts cuts : List (Id × Id)) (g d : Id) : Int :=
  if d = (0, 0) then 1 else if has first puts g = false then 3 else if d ∈ cuts.map Prod.snd then 4 else 0
def cutCuts (first : List Id) (puts cuts : List (Id × Id)) (g d : Id) : List (Id × Id) := if cutS first puts cuts g d = 0 then cuts ++ [(g, d)] else cuts
theorem getKV_by (cuts : List (Id × Id)) (d : Id) : getKV d (byOf cuts) = if d ∈ cuts.map Prod.snd then some (.bool true) else none := by
  unfold byOf
  induction cuts with
  | nil => simp [getKV]
  | cons c l ih =>
    simp only [List.map_cons, getKV, List.mem_cons]
    by_cases h : c.2 = d
    · rw [if_pos h, if_pos (.inl h.symm)]
    · rw [if_neg h, ih]
      have hn : ¬ d = c.2 := fun e => h e.symm
      by_cases hm : d ∈ l.map Prod.snd
      · rw [if_pos hm, if_pos (.inr hm)]
      · rw [if_neg hm, if_neg (fun e => e.elim hn hm)]

theorem cutCells_app (l m : List (Id × Id)) : cutCells (l ++ m) = cutCells l ++ cutCells m := by
  induction l with
  | nil => rfl
  | cons x l ih => simp [cutCells, ih]
theorem by_put (cuts : List (Id × Id)) (g d : Id) (h : d ∉ cuts.map Prod.snd) : putKV d (.bool true) (byOf cuts) = byOf (cuts ++ [(g, d)]) := by
  rw [putKV_new]
  · unfold byOf; simp
  · rw [getKV_by, if_neg h]
theorem cnd_put {cuts : List (Id × Id)} {g d : Id} (h : (cuts.map Prod.snd).Nodup) (hd : d ∉ cuts.map Prod.snd) : ((cuts ++ [(g, d)]).map Prod.snd).Nodup := by
  rw [List.map_append, List.nodup_append]
  refine ⟨h, by simp, fun a ha b hb e => ?_⟩
  simp only [List.map_cons, List.map_nil, List.mem_singleton] at hb
  exact hd (by rw [← hb, ← e]; exact ha)
/-- One deletion more. -/
theorem ShIs.addCut {w w1 w2 w3 : World} {own : Tags} {t p s h b g c : Nat} {F : List Id} {puts cuts : List (Id × Id)} {vF vD : Value} {hl : List (Id × Value)} (a : ShIs w own t p F puts cuts vF s h vD b hl) (x d : Id) (hd : d ∉ cuts.map Prod.snd)
    (hm1 : MapIs w1 b (putKV d (.bool true) (byOf cuts))) (hg1 : w.grownBy w1 (some b)) (hb2 : Below w1.heap.size w1 w2)
    (hg3 : w2.grownBy w3 vD.ownBlock) (hr3 : w3.ownsRow 0 113 4 (.slice (some ⟨g, 0, none⟩) (cuts.length + 1) c) (cuts.length + 1) (cutCells (cuts ++ [(x, d)]))) (hat : vD.ownBlock = some g ∨ (w2.heap.size ≤ g ∧ g < w3.heap.size)) :
    Blk w3 p 100 #[vF, .map (some s), .map (some h), vD, .map (some b)] ∧ ∃ own', Tr own t w own' (w3.setCell ⟨p, 3, none⟩ (.slice (some ⟨g, 0, none⟩) (cuts.length + 1) c)) ∧ ShIs (w3.setCell ⟨p, 3, none⟩ (.slice (some ⟨g, 0, none⟩) (cuts.length + 1) c)) own' t p F puts (cuts ++ [(x, d)]) vF s h (.slice (some ⟨g, 0, none⟩) (cuts.length + 1) c) b hl := by
  have mne : ∀ {X e cs}, Blk w X e cs → (some b : Option Nat) ≠ some X := fun hb e => hb.ne_map a.mB (Option.some.inj e).symm
  have tr2 : Tr own t w own w2 := ((Tr.refl own t w).grown hg1 (fun k e => .inl (by cases e; exact a.tB))).below hb2
  have rD2 : Row w2 own t 113 4 vD cuts.length (cutCells cuts) := (a.rD.past (own1 := own) hg1 (fun _ _ => rfl) (fun g' hg' e => a.rD.not_map a.mB (by rw [hg', ← Option.some.inj e]))).keep (Same.below hb2)
  have b1 := a.blk.past hg1 (mne a.blk)
  have b2 := b1.kept (hb2.block p b1.lt)
  have mB2 := hm1.kept (hb2.block b hm1.lt)
  have mH1 := a.mH.past hg1 (fun e => a.hb (Option.some.inj e).symm)
  have mH2 := mH1.kept (hb2.block h mH1.lt)
  have mS1 := a.mS.past hg1 (fun e => a.sb (Option.some.inj e).symm)
  have mS2 := mS1.kept (hb2.block s mS1.lt)
  obtain ⟨own1, tr3, hs, r3⟩ := rD2.app2 (Tr.refl own t w2) hg3 hr3 hat
  have b3 := b2.past hg3 (rD2.not_blk b2 (by decide))
  have mS3 := mS2.past hg3 (rD2.not_map mS2)
  have mH3 := mH2.past hg3 (rD2.not_map mH2)
  have mB3 := mB2.past hg3 (rD2.not_map mB2)
  have ids3 : ∀ {v n l}, Row w own t 24 2 v n l → Row w3 own1 t 24 2 v n l := fun {v n l} hv => by
    have v2 := (hv.past (own1 := own) hg1 (fun _ _ => rfl) (fun g' hg' e => hv.not_map a.mB (by rw [hg', ← Option.some.inj e]))).keep (Same.below hb2)
    exact v2.past hg3 hs (fun g' hg' e => by
      obtain ⟨cs, hbD⟩ := v2.blk hg'
      exact rD2.not_blk hbD (by decide) e)
  have tp : own1 p = t := by rw [hs p b2.lt]; exact a.tag
  refine ⟨b3, own1, (tr2.trans tr3).setCell (.inl tp) _, tp, ?_, (ids3 a.rF).stored (p := ⟨p, 3, none⟩) _ (fun _ _ h _ => h.ne_type b3 (by decide)), by rw [hs s mS2.lt]; exact a.tS, mS3.store (p := ⟨p, 3, none⟩) _ b3, by rw [hs h mH2.lt]; exact a.tH, mH3.store (p := ⟨p, 3, none⟩) _ b3, by rw [hs b mB2.lt]; exact a.tB, ?_, ?_, a.sh, a.sb, a.hb, fun k v hv => (ids3 (a.rows k v hv)).stored (p := ⟨p, 3, none⟩) _ (fun _ _ h _ => h.ne_type b3 (by decide)), a.bare, a.apart⟩
  · have := b3.store 3 (.slice (some ⟨g, 0, none⟩) (cuts.length + 1) c)
    simpa using this
  · rw [← by_put cuts x d hd]; exact mB3.store (p := ⟨p, 3, none⟩) _ b3
  · have := r3.stored (p := ⟨p, 3, none⟩) (.slice (some ⟨g, 0, none⟩) (cuts.length + 1) c) (fun _ _ h _ => h.ne_type b3 (by decide))
    simpa using this

set_option maxRecDepth 100000 in
set_option maxHeartbeats 1000000 in
theorem sdel_zero (w : World) (own : Tags) (t p : Nat) (first : List Id) (puts cuts : List (Id × Id)) (b1 b2 : Int) (h : ShAt w own t p first puts cuts) :
    Calls Try.prog 46 #[.pointer (some ⟨p, 0, none⟩), .agg #[.int .i64 b1, .int .i64 b2], .agg #[.int .i64 0, .int .i64 0]] w (SAP w own t p first puts cuts (.int .i64 1)) := by
  have hq : ideq 0 0 0 0 = true := by decide
  have H := Lib.hid h
  clear h
  go_enter Try.func46, Try.ntmps46
  go_wp2
  go_ret
  exact ⟨rfl, own, ((Tr.refl own t w).alloc _).alloc _, H.out.keep (same2 _ _)⟩
set_option maxRecDepth 100000 in
set_option maxHeartbeats 1000000 in
theorem sdel_out (w : World) (own : Tags) (t p : Nat) (first : List Id) (puts cuts : List (Id × Id)) (b1 b2 x y : Int) (h : ShAt w own t p first puts cuts) (hz : (x, y) ≠ (0, 0)) (hbx : has first puts (b1, b2) = false) :
    Calls Try.prog 46 #[.pointer (some ⟨p, 0, none⟩), .agg #[.int .i64 b1, .int .i64 b2], .agg #[.int .i64 x, .int .i64 y]] w (SAP w own t p first puts cuts (.int .i64 3)) := by
  have hq : ideq x y 0 0 = false := ideq_false.2 (fun ⟨a, b⟩ => hz (by rw [a, b]))
  have hsp := Lib.hid (fun o o' => shas_c ((w.alloc o).alloc o') own t p first puts cuts b1 b2 (h.keep (same2 o o')))
  rw [hbx] at hsp
  have H := Lib.hid h
  clear h hbx hz
  go_enter Try.func46, Try.ntmps46
  go_wp2_with fail
  refine (hsp.out _ _).mono ?_
  rintro e w1 ⟨rfl, hB⟩
  have HB := Lib.hid hB
  clear hB
  go_wp2_with fail
  go_ret
  exact ⟨rfl, own, (((Tr.refl own t w).alloc _).alloc _).below HB.out, (H.out.keep (same2 _ _)).next HB.out⟩
set_option maxRecDepth 100000 in
set_option maxHeartbeats 1000000 in
theorem sdel_dup (w : World) (own : Tags) (t p : Nat) (first : List Id) (puts cuts : List (Id × Id)) (b1 b2 x y : Int) (h : ShAt w own t p first puts cuts) (hz : (x, y) ≠ (0, 0)) (hbx : has first puts (b1, b2) = true) (hd : (x, y) ∈ cuts.map Prod.snd) :
    Calls Try.prog 46 #[.pointer (some ⟨p, 0, none⟩), .agg #[.int .i64 b1, .int .i64 b2], .agg #[.int .i64 x, .int .i64 y]] w (SAP w own t p first puts cuts (.int .i64 4)) := by
  have hq : ideq x y 0 0 = false := ideq_false.2 (fun ⟨a, b⟩ => hz (by rw [a, b]))
  have hsp := Lib.hid (fun o o' => shas_c ((w.alloc o).alloc o') own t p first puts cuts b1 b2 (h.keep (same2 o o')))
  rw [hbx] at hsp
  have H := Lib.hid h
  have HG := Lib.hid (getKV_by cuts (x, y))
  rw [if_pos hd] at HG
  clear h hbx hz hd
  go_enter Try.func46, Try.ntmps46
  go_wp2_with fail
  refine (hsp.out _ _).mono ?_
  rintro e w1 ⟨rfl, hB⟩
  have H1 := Lib.hid ((H.out.keep (same2 _ _)).next hB)
  have T1 := Lib.hid ((((Tr.refl own t w).alloc _).alloc _).below hB)
  have e0 := (hB.cell (p := ⟨w.heap.size + 1, 0, none⟩) (by simp)).trans (by simp : _ = some (.int .i64 x))
  have e1 := (hB.cell (p := ⟨w.heap.size + 1, 1, none⟩) (by simp)).trans (by simp : _ = some (.int .i64 y))
  clear hB
  obtain ⟨_, _, vF, s, hh, vD, b, hll, a⟩ := H1.out
  have c4 := a.blk.cell 4
  have hp := a.blk.lt
  have hlk := fun (nq : Nat) => MapIs.look (w := w1.drewN nq) (a.mB.kept rfl) Try.underlying95 (zero4 _) (x, y) false
  simp only [idv, HG.out, Option.getD_some, Bool.false_eq_true, if_false] at hlk
  simp at c4
  clear a
  go_wp2_with fail
  go_quiet (fail)
  go_wp2_with fail
  go_ret
  exact ⟨rfl, own, T1.out.drewN _, H1.out.keep (Same.drewN _)⟩

set_option maxRecDepth 100000 in
set_option maxHeartbeats 1000000 in
theorem sdel_put (w : World) (own : Tags) (t p : Nat) (first : List Id) (puts cuts : List (Id × Id)) (b1 b2 x y : Int) (h : ShAt w own t p first puts cuts) (hf : Fresh own w) (ht : t ≠ 0) (hcl : cuts.length ≤ 1000) (hz : (x, y) ≠ (0, 0)) (hbx : has first puts (b1, b2) = true) (hd : (x, y) ∉ cuts.map Prod.snd) :
    Calls Try.prog 46 #[.pointer (some ⟨p, 0, none⟩), .agg #[.int .i64 b1, .int .i64 b2], .agg #[.int .i64 x, .int .i64 y]] w (SAP w own t p first puts (cuts ++ [((b1, b2), (x, y))]) (.int .i64 0)) := by
  have hq : ideq x y 0 0 = false := ideq_false.2 (fun ⟨a, b⟩ => hz (by rw [a, b]))
  have hsp := Lib.hid (fun o o' => shas_c ((w.alloc o).alloc o') own t p first puts cuts b1 b2 (h.keep (same2 o o')))
  rw [hbx] at hsp
  have H := Lib.hid h
  have HG := Lib.hid (getKV_by cuts (x, y))
  rw [if_neg hd] at HG
  have HD := Lib.hid hd
  have X0 := Lib.hid ((Box.new hf 24 #[.int .i64 b1, .int .i64 b2]).alloc (.cells #[.int .i64 x, .int .i64 y] 24))
  have y0 : Box ((w.alloc (.cells #[.int .i64 b1, .int .i64 b2] 24)).alloc (.cells #[.int .i64 x, .int .i64 y] 24)) own (w.heap.size + 1) 24 #[.int .i64 x, .int .i64 y] := by
    have := Box.new (hf.alloc (.cells #[.int .i64 b1, .int .i64 b2] 24)) 24 #[.int .i64 x, .int .i64 y]
    simpa using this
  have Y0 := Lib.hid y0
  have HT := Lib.hid ht
  have HF := Lib.hid hf
  clear h hbx hz hd y0 ht hf
  go_enter Try.func46, Try.ntmps46
  go_wp2_with fail
  refine (hsp.out _ _).mono ?_
  rintro e w1 ⟨rfl, hB⟩
  have H1 := Lib.hid ((H.out.keep (same2 _ _)).next hB)
  have T1 := Lib.hid ((((Tr.refl own t w).alloc _).alloc _).below hB)
  have X1 := Lib.hid (X0.out.next hB)
  have Y1 := Lib.hid (Y0.out.next hB)
  clear hB X0 Y0 H
  obtain ⟨wf0, cnd0, vF, s, hh, vD, b, hll, a⟩ := H1.out
  have Hc := Lib.hid (And.intro wf0 cnd0)
  have HA := Lib.hid a
  have e0 := Y1.out.blk.cell 0
  have e1 := Y1.out.blk.cell 1
  simp only [List.getElem?_toArray, List.getElem?_cons_zero, List.getElem?_cons_succ] at e0 e1
  have c4 := a.blk.cell 4
  have hp := a.blk.lt
  have hlk := fun (nq : Nat) => MapIs.look (w := w1.drewN nq) (a.mB.kept rfl) Try.underlying95 (zero4 _) (x, y) false
  simp only [idv, HG.out, Option.getD_none, Bool.false_eq_true, if_false] at hlk
  simp at c4
  clear a wf0 cnd0 H1
  go_wp2_with fail
  go_quiet (fail)
  go_wp2_with fail
  have HA2 := Lib.hid (HA.out.keep (Same.drewN (own := own) (s := t) nq))
  have T2 := Lib.hid (T1.out.drewN nq)
  have X2 := Lib.hid (X1.out.drewN nq)
  have Y2 := Lib.hid (Y1.out.drewN nq)
  clear hlk c4 hp e0 e1 HA T1 X1 Y1 hsp
  generalize w1.drewN nq = W2 at *
  have HC : AllCells W2.drew [(⟨p, 4, none⟩, .map (some b)), (⟨w.heap.size + 1, 0, none⟩, .int .i64 x), (⟨w.heap.size + 1, 1, none⟩, .int .i64 y)] := ⟨HA2.out.blk.cell 4, Y2.out.blk.cell 0, Y2.out.blk.cell 1, trivial⟩
  have MB2 := Lib.hid (HA2.out.mB.kept (w' := W2.drew) rfl)
  refine region_free _ [0, 1, 2, 3, 4] 1 (by kernel_rfl) (by kernel_rfl) (by kernel_rfl) (by kernel_rfl) (by kernel_rfl) (fun _ _ _ _ _ h => h) HC ?_
  intro hne hu
  simp only [AllCells] at hu
  simp only [pick, List.take_succ_cons, List.take_zero, List.drop_succ_cons, List.drop_zero, List.cons_append, List.nil_append]
  repeat (go_big_quiet_step (fail))
  refine wpQuiet_nil ?_
  clear hne hu
  refine anyN_oneL 5 (by kernel_rfl) ?_
  simp only [List.take_succ_cons, List.take_zero, List.drop_succ_cons, List.drop_zero]
  refine wpList_mapUpdate_id W2.drew rfl _ _ _ 95 rfl 4 Try.underlying95 b (byOf cuts) rfl MB2.out x y (.bool true) rfl rfl ?_
  intro w3 hm3 hg3
  have mne : ∀ {X e cs}, Blk W2 X e cs → (some b : Option Nat) ≠ some X := fun hb e => hb.ne_map HA2.out.mB (Option.some.inj e).symm
  have b3 := (HA2.out.blk.kept (w' := W2.drew) rfl).past hg3 (mne HA2.out.blk)
  have x3 := (X2.out.blk.kept (w' := W2.drew) rfl).past hg3 (mne X2.out.blk)
  have y3 := (Y2.out.blk.kept (w' := W2.drew) rfl).past hg3 (mne Y2.out.blk)
  have HC3 : Hid (AllCells w3 [(⟨p, 4, none⟩, .map (some b)), (⟨w.heap.size + 1, 0, none⟩, .int .i64 x), (⟨w.heap.size + 1, 1, none⟩, .int .i64 y)]) := ⟨b3.cell 4, y3.cell 0, y3.cell 1, trivial⟩
  have B3 := Lib.hid b3
  have X3 := Lib.hid x3
  have Y3 := Lib.hid y3
  have M3 := Lib.hid hm3
  have G3 := Lib.hid (show W2.grownBy w3 (some b) from ⟨hg3.os, hg3.tape, hg3.output, hg3.size, hg3.block⟩)
  clear b3 x3 y3 hm3 hg3 mne HC MB2
  simp only [Exit.then]
  refine And.intro (fun _ => HC3.out) ?_
  refine ⟨by kernel_rfl, ?_⟩
  clear HC3
  simp only [Act.put]
  go_wp2_with fail
  obtain ⟨AD, cD, hvD, _⟩ := HA2.out.rD.form
  subst hvD
  have HD3 : AllCells w3.drew [(⟨p, 3, none⟩, .slice AD cuts.length cD), (⟨w.heap.size, 0, none⟩, .int .i64 b1), (⟨w.heap.size, 1, none⟩, .int .i64 b2), (⟨w.heap.size + 1, 0, none⟩, .int .i64 x), (⟨w.heap.size + 1, 1, none⟩, .int .i64 y)] := ⟨B3.out.cell 3, X3.out.cell 0, X3.out.cell 1, Y3.out.cell 0, Y3.out.cell 1, trivial⟩
  have hpl := B3.out.lt
  have bl4 : Below w3.heap.size w3 (w3.alloc (.cells #[.int .i64 b1, .int .i64 b2, .int .i64 x, .int .i64 y] 113)).drew := ((Below.refl _ _).alloc (Nat.le_refl _) _).drew
  have HD4 := Lib.hid (AllCells.below (show AllCells w3 [(⟨p, 3, none⟩, .slice AD cuts.length cD), (⟨w.heap.size, 0, none⟩, .int .i64 b1), (⟨w.heap.size, 1, none⟩, .int .i64 b2), (⟨w.heap.size + 1, 0, none⟩, .int .i64 x), (⟨w.heap.size + 1, 1, none⟩, .int .i64 y)] from HD3) bl4)
  have RD4 := Lib.hid ((HA2.out.rD.past (own1 := own) G3.out (fun _ _ => rfl) (fun g' hg' e => HA2.out.rD.not_map HA2.out.mB (by rw [hg', ← Option.some.inj e]))).keep (Same.below bl4))
  have BL4 := Lib.hid bl4
  have X4 := Lib.hid (X3.out.kept (bl4.block _ X3.out.lt))
  have Y4 := Lib.hid (Y3.out.kept (bl4.block _ Y3.out.lt))
  have hxo : Hid ((Value.slice AD cuts.length cD).ownBlock ≠ some w.heap.size) := fun e => by
    have := HA2.out.rD.2 _ e
    rw [X2.out.zero] at this
    exact HT.out this.symm
  have hyo : Hid ((Value.slice AD cuts.length cD).ownBlock ≠ some (w.heap.size + 1)) := fun e => by
    have := HA2.out.rD.2 _ e
    rw [Y2.out.zero] at this
    exact HT.out this.symm
  obtain ⟨i0, hi, hz0, hz1, hz2⟩ := info_parts Try.info113
  refine region_picked _ [0, 1, 2, 3, 4, 5, 6, 7] [0, 1, 2, 3, 4, 5, 6, 7, 8, 9] 5 (by kernel_rfl) (by kernel_rfl) (by kernel_rfl) (by kernel_rfl) (by kernel_rfl) (by kernel_rfl) (fun _ _ _ _ _ h => h) HD3 ?_
  intro hne hu
  simp only [AllCells] at hu
  simp only [pick, List.take_succ_cons, List.take_zero, List.drop_succ_cons, List.drop_zero, List.cons_append, List.nil_append]
  repeat (go_big_quiet_step (fail))
  refine wpQuiet_nil ?_
  clear hne hu
  refine anyN_oneL 8 (by kernel_rfl) ?_
  simp only [List.take_succ_cons, List.take_zero, List.drop_succ_cons, List.drop_zero]
  go_wp2_with fail
  refine And.intro (fun _ => HD4.out) ?_
  refine anyN_oneL 9 (by kernel_rfl) ?_
  simp only [List.take_succ_cons, List.take_zero, List.drop_succ_cons, List.drop_zero]
  refine wpList_append_own_at _ rfl _ _ _ rfl 0 113 i0 _ 4 32 Try.underlying98 hi hz0 hz1 hz2 rfl (by omega) _ _ _ rfl RD4.out.1 ⟨w3.heap.size, 0, none⟩ 1 1 [.int .i64 b1, .int .i64 b2, .int .i64 x, .int .i64 y] rfl rfl (World.news_of_block (cs := #[.int .i64 b1, .int .i64 b2, .int .i64 x, .int .i64 y]) (t := 113) (fr := (0, 0)) (heap_alloc_new w3 _)) (by simp [Value.oneCell']) (by simp only [maxLen]; omega) (by omega) (Nat.zero_le _) ?_
  intro v' w5 hown5 hgrow5 _ hat5
  obtain ⟨gN, cN, rfl⟩ := ownsRow_slice hown5 (by omega)
  have hr5 : w5.ownsRow 0 113 4 (.slice (some ⟨gN, 0, none⟩) (cuts.length + 1) cN) (cuts.length + 1) (cutCells (cuts ++ [((b1, b2), (x, y))])) := by
    simpa [cutCells_app, cutCells] using hown5
  obtain ⟨b5, own5, tr5, a5⟩ := HA2.out.addCut (b1, b2) (x, y) HD.out M3.out G3.out BL4.out hgrow5 hr5 (hat5.imp (fun e => e.symm.trans rfl) (fun e => by
    have e' : gN = (w3.alloc (.cells #[.int .i64 b1, .int .i64 b2, .int .i64 x, .int .i64 y] 113)).drew.heap.size := by simpa [Value.ownBlock] using e
    exact ⟨by omega, (hown5.lt gN rfl).2⟩))
  have x5 := X4.out.kept (hgrow5.block _ X4.out.lt (fun e => hxo.out e.symm))
  have y5 := Y4.out.kept (hgrow5.block _ Y4.out.lt (fun e => hyo.out e.symm))
  have HC5 : Hid (AllCells w5 [(⟨p, 3, none⟩, .slice AD cuts.length cD), (⟨w.heap.size, 0, none⟩, .int .i64 b1), (⟨w.heap.size, 1, none⟩, .int .i64 b2), (⟨w.heap.size + 1, 0, none⟩, .int .i64 x), (⟨w.heap.size + 1, 1, none⟩, .int .i64 y)]) := ⟨b5.cell 3, x5.cell 0, x5.cell 1, y5.cell 0, y5.cell 1, trivial⟩
  have f3 := b5.frozen 3
  have g3 := b5.cell 3
  simp only [List.getElem?_toArray, List.getElem?_cons_zero, List.getElem?_cons_succ] at g3
  have TR5 := Lib.hid (T2.out.trans tr5)
  have A5 := Lib.hid a5
  clear hown5 hgrow5 hat5 hr5 b5 tr5 a5 x5 y5
  simp only [Exit.then]
  refine And.intro (fun _ => HC5.out) ?_
  refine anyN_restL 10 (by kernel_rfl) (by decide) (by kernel_rfl) ?_
  simp only [List.drop_succ_cons, List.drop_zero, Act.put, List.setIfInBounds_toArray, List.set_cons_succ, List.set_cons_zero]
  go_wp2_with fail
  go_ret
  exact ⟨rfl, own5, TR5.out, Hc.out.1, cnd_put Hc.out.2 HD.out, _, _, _, _, _, _, A5.out⟩
theorem sdelete_c (w : World) (own : Tags) (t p : Nat) (first : List Id) (puts cuts : List (Id × Id)) (b1 b2 x y : Int) (h : ShAt w own t p first puts cuts) (hf : Fresh own w) (ht : t ≠ 0) (hcl : cuts.length ≤ 1000) :
    Calls Try.prog 46 #[.pointer (some ⟨p, 0, none⟩), .agg #[.int .i64 b1, .int .i64 b2], .agg #[.int .i64 x, .int .i64 y]] w (SAP w own t p first puts (cutCuts first puts cuts (b1, b2) (x, y)) (.int .i64 (cutS first puts cuts (b1, b2) (x, y)))) := by
  unfold cutCuts
  by_cases h0 : (x, y) = (0, 0)
  · have e : cutS first puts cuts (b1, b2) (x, y) = 1 := by unfold cutS; rw [if_pos h0]
    rw [e, if_neg (by decide)]
    cases h0
    exact sdel_zero w own t p first puts cuts b1 b2 h
  by_cases h1 : has first puts (b1, b2) = false
  · have e : cutS first puts cuts (b1, b2) (x, y) = 3 := by unfold cutS; rw [if_neg h0, if_pos h1]
    rw [e, if_neg (by decide)]
    exact sdel_out w own t p first puts cuts b1 b2 x y h h0 h1
  have h1' : has first puts (b1, b2) = true := by simpa using h1
  by_cases h2 : (x, y) ∈ cuts.map Prod.snd
  · have e : cutS first puts cuts (b1, b2) (x, y) = 4 := by unfold cutS; rw [if_neg h0, if_neg h1, if_pos h2]
    rw [e, if_neg (by decide)]
    exact sdel_dup w own t p first puts cuts b1 b2 x y h h0 h1' h2
  · have e : cutS first puts cuts (b1, b2) (x, y) = 0 := by unfold cutS; rw [if_neg h0, if_neg h1, if_neg h2]
    rw [e, if_pos rfl]
    exact sdel_put w own t p first puts cuts b1 b2 x y h hf ht hcl h0 h1' h2
end Go.Proofs.Ytgmlhpkhecbkoaa
namespace Go.Proofs.Ytgmlhpkhecbkoaa
open Go.RowKit

@[go_sem ↓] theorem Try.eqlnil98 (w : World) (A : Option Addr) (n c : Nat) : (binOp .eql 98 (.slice A n c) (.slice none 0 0)).run Try.prog w = .ok (.bool A.isNone) w := Lib.run_eql_slice_nil w _ _ A n c 0 0 Try.underlying98

theorem cutCells_one (l : List (Id × Id)) : ∀ u ∈ cutCells l, u.oneCell' = true := by
  induction l with
  | nil => simp [cutCells]
  | cons x l ih =>
    intro u hu
    simp only [cutCells, List.mem_cons] at hu
    rcases hu with rfl | rfl | rfl | rfl | hu
    · rfl
    · rfl
    · rfl
    · rfl
    · exact ih u hu

/-- A new list of deletions is handed back. -/
def DListP (w : World) (own : Tags) (t : Nat) (l : List (Id × Id)) (e : Ending) (w' : World) : Prop :=
  ∃ v own', e = .returned v ∧ Tr own t w own' w' ∧ Row w' own' t 113 4 v l.length (cutCells l)
set_option maxRecDepth 100000 in
set_option maxHeartbeats 1000000 in
theorem dclone_none (n c : Nat) (w : World) (own : Tags) (t : Nat) : Calls Try.prog 75 #[.slice none n c] w (DListP w own t []) := by
  go_enter Try.func75, Try.ntmps75
  go_wp2
  go_ret
  exact ⟨_, own, rfl, Tr.refl _ _ _, Row.nil _ _ _ _ _⟩
set_option maxRecDepth 100000 in
set_option maxHeartbeats 1000000 in
theorem dclone_some (a : Addr) (n c : Nat) (l : List (Id × Id)) (w : World) (own : Tags) (t : Nat) (hR : ∀ j u, (cutCells l)[j]? = some u → (w.alloc (.cells #[] 113)).cell? (a.add j) = some u) (hn : l.length = n) (hm : n ≤ 1000000) :
    Calls Try.prog 75 #[.slice (some a) n c] w (DListP w own t l) := by
  obtain ⟨i0, hi, hi0, hi1, hi2⟩ := info_parts Try.info113
  have hR1 := Lib.hid hR
  have Hn := Lib.hid hn
  have hown : (w.alloc (.cells #[] 113)).ownsRow 0 113 4 (.slice (some ⟨w.heap.size, 0, none⟩) 0 0) 0 [] := World.ownsRow_made w #[] 0 (Nat.zero_le _) (Nat.zero_le _) (by simp)
  have HO := Lib.hid hown
  clear hR hn hown
  go_enter Try.func75, Try.ntmps75
  go_wp2_with (at_builtin; refine wpList_append_own_at _ rfl _ _ _ rfl 0 113 i0 _ 4 32 Try.underlying98 hi hi0 hi1 hi2 rfl (by omega) _ _ _ rfl HO.out a n c (cutCells l) rfl (by rw [length_cutCells, Hn.out]) hR1.out (cutCells_one l) (by simp only [maxLen]; omega) (by omega) (Nat.zero_le _) ?_; intro v' w1 hown1 hgrow1 _ hat1)
  go_ret
  have hr0 : Row (w.alloc (.cells #[] 113)) (tagAt own w.heap.size t) t 113 4 (.slice (some ⟨w.heap.size, 0, none⟩) 0 0) 0 [] := ⟨HO.out, fun g hg => by simp [Value.ownBlock] at hg; subst hg; simp [tagAt]⟩
  obtain ⟨own2, tr2, _, r2⟩ := hr0.app (((Tr.refl own t w).alloc (.cells #[] 113)).tag (Nat.le_refl _) (by simp) t) hgrow1 hown1 (hat1.imp id (fun h => ⟨h, (hown1.lt _ h).2⟩))
  exact ⟨v', own2, rfl, tr2, by simpa [Hn.out] using r2⟩
theorem dclone_c (v : Value) (n : Nat) (l : List (Id × Id)) (w : World) (own own2 : Tags) (s t : Nat) (h : Row w own2 s 113 4 v n (cutCells l)) (hm : n ≤ 1000000) :
    Calls Try.prog 75 #[v] w (DListP w own t l) := by
  obtain ⟨A, c, rfl, _⟩ := h.form
  have hn : n = l.length := by have := h.1.1; rw [length_cutCells] at this; omega
  cases A with
  | none =>
    have : l = [] := by
      cases l with
      | nil => rfl
      | cons x r =>
        rcases h.1.2 with ⟨_, h0⟩ | ⟨g, cap, cur, hv, _⟩
        · simp at hn; omega
        · cases hv
    subst this
    exact dclone_none n c w own t
  | some a =>
    refine dclone_some a n c l w own t (fun j u hj => ?_) hn.symm hm
    rcases h.1.2 with ⟨hv, _⟩ | ⟨g, cap, cur, hv, _⟩
    · cases hv
    · injection hv with e1
      injection e1 with e1
      subst e1
      have := h.1.cells (g := g) rfl j u hj
      have hb := World.block_lt_of_cell? w _ this
      rw [World.cell?_alloc_lt _ _ _ hb]
      exact this

/-! ### maps.Clone -/
theorem run_assert95 (w : World) (xT : TypeId) (v : Value) : (Instr.typeAssert (.iface 95 v) xT 95 false).run Try.prog w = .ok v w := by
  simp [Instr.typeAssert, run_underlying Try.underlying95, go_sem, Result.andThen]
theorem run_mclone (w : World) {r : Nat} {es : Array MapEntry} {clock : Nat} (t : TypeId) (hb : w.heap[r]? = some (.map es clock)) :
    (Extern.MapsClone.clone #[.iface t (.map (some r))]).run Try.prog w = .ok (.iface t (.map (some w.heap.size))) (w.alloc (.map es clock)) := by
  have e : Extern.MapsClone.clone #[.iface t (.map (some r))] = (getObj r >>= fun o => match o with
      | .map entries clock => (newObj (.map entries clock) >>= fun n => pure (.iface t (.map (some n))))
      | _ => stuck "maps.clone: a map expected") := rfl
  rw [e]
  simp [MapKept.run_getObj_map hb, Result.andThen, go_sem]
set_option maxRecDepth 100000 in
set_option maxHeartbeats 1000000 in
theorem mclone_c (b : Nat) (l : List (Id × Value)) (w : World) (h : MapIs w b l) :
    Calls Try.prog 74 #[.map (some b)] w fun e w' => e = .returned (.map (some w.heap.size)) ∧ MapIs w' w.heap.size l ∧ Below w.heap.size w w' ∧ w'.heap.size = w.heap.size + 1 := by
  obtain ⟨es, clock, hb, hkv, hst⟩ := h
  have Hk := Lib.hid (And.intro hkv hst)
  clear hkv hst
  go_enter Try.func74, Try.ntmps74
  go_wp2_with fail
  rw [run_callFunc_extern Try.func86 (by kernel_rfl) (by kernel_rfl) (by kernel_rfl) (e := Extern.MapsClone.clone) (by kernel_rfl), run_mclone w 95 hb]
  simp only [Result.andThen]
  rw [Oper.upon_value]
  go_wp2_with fail
  rw [run_assert95]
  simp only [Result.andThen]
  rw [Oper.upon_value]
  go_wp2_with fail
  go_ret
  exact ⟨rfl, ⟨es, clock, heap_alloc_new w _, Hk.out.1, Hk.out.2⟩, (Below.refl _ _).alloc (Nat.le_refl _) _, by simp⟩

/-! ### a range over a map keyed by ids -/
/-- A loop over the map b, of keys and values l, is under way; its iterator is the block r; 'rem' are still to come. -/
def RangeIs (w : World) (b r : Nat) (l rem : List (Id × Value)) : Prop :=
  ∃ es clock since seen c0, w.heap[b]? = some (.map es clock) ∧ es.toList.map (fun e => (e.key, e.val)) = l.map (fun p => (idv p.1, p.2)) ∧ Stamped es clock ∧ w.heap[r]? = some (.mapIter (some b) since seen c0) ∧ (∀ x ∈ es.toList, x.born < since) ∧ since ≤ c0 ∧ since ≤ clock ∧
    (leftOf es seen).toList.map (fun e => (e.key, e.val)) = rem.map (fun p => (idv p.1, p.2))
def leftNum (w : World) (b r : Nat) : Nat := match w.heap[b]?, w.heap[r]? with
  | some (.map es _), some (.mapIter _ _ seen _) => (leftOf es seen).size
  | _, _ => 0
theorem RangeIs.num {w : World} {b r : Nat} {l rem : List (Id × Value)} (h : RangeIs w b r l rem) : leftNum w b r = rem.length := by
  obtain ⟨es, clock, since, seen, c0, h1, _, _, h4, _, _, _, h8⟩ := h
  unfold leftNum
  rw [h1, h4]
  have := congrArg List.length h8
  simpa using this
theorem RangeIs.kept {w w' : World} {b r : Nat} {l rem : List (Id × Value)} (h : RangeIs w b r l rem) (hb : w'.heap[b]? = w.heap[b]?) (hr : w'.heap[r]? = w.heap[r]?) : RangeIs w' b r l rem := by
  obtain ⟨es, clock, since, seen, c0, h1, h2, h3, h4, h5⟩ := h
  exact ⟨es, clock, since, seen, c0, hb.trans h1, h2, h3, hr.trans h4, h5⟩
theorem RangeIs.lt {w : World} {b r : Nat} {l rem : List (Id × Value)} (h : RangeIs w b r l rem) : b < w.heap.size ∧ r < w.heap.size := by
  obtain ⟨es, clock, since, seen, c0, h1, _, _, h4, _⟩ := h
  exact ⟨(Array.getElem?_eq_some_iff.1 h1).1, (Array.getElem?_eq_some_iff.1 h4).1⟩
/-- 'range m'. -/
theorem run_range_id (w : World) {t e : TypeId} {b : Nat} {l : List (Id × Value)} (ht : Try.prog.underlying t = some (.map 24 e)) (h : MapIs w b l) :
    ∃ w', (Instr.range t (.map (some b))).run Try.prog w = .ok (.pointer (some ⟨w.heap.size, 0, none⟩)) w' ∧ RangeIs w' b w.heap.size l l ∧ Below w.heap.size w w' ∧ w'.heap.size = w.heap.size + 1 := by
  obtain ⟨es, clock, hb, hkv, hst, _⟩ := h
  refine ⟨_, run_range_map w t 24 e b es clock ht hb, ⟨es, clock, clock, #[], clock, ?_, hkv, hst, heap_alloc_new w _, hst.2, Nat.le_refl _, Nat.le_refl _, ?_⟩, (Below.refl _ _).alloc (Nat.le_refl _) _, by simp⟩
  · rw [heap_alloc_old w _ (Array.getElem?_eq_some_iff.1 hb).1]; exact hb
  · have : leftOf es #[] = es := by unfold leftOf; simp
    rw [this]; exact hkv
section
variable {ops : Array Oper} {rest : List Oper} {o : Oper} {a : Act} {Q : Exit → Act → World → Prop}
theorem wpList_range_id (w : World) (hg : o.guard = none) (m : Operand) (t : TypeId) (hop : o.op = Op.range t m) (e : TypeId) (ht : Try.prog.underlying t = some (.map 24 e)) (b : Nat) (l : List (Id × Value)) (hm : a.eval m = .map (some b)) (h : MapIs w b l)
    (hK : ∀ w', RangeIs w' b w.heap.size l l → Below w.heap.size w w' → w'.heap.size = w.heap.size + 1 → wpList Try.prog ops Q rest (a.put o.dst (.pointer (some ⟨w.heap.size, 0, none⟩))) w') : wpList Try.prog ops Q (o :: rest) a w := by
  refine wpList_plain hg fun K' hK' => ?_
  obtain ⟨w', hrun, r1, r2, r3⟩ := run_range_id w ht h
  unfold Oper.wp
  simp [execOp, hop, hm, hrun, Result.andThen]
  exact hK' _ _ (hK w' r1 r2 r3)

theorem left_pushed (es : Array MapEntry) (seen : Array Nat) (e : MapEntry) (hn : (es.toList.map (·.born)).Nodup) {L1 L2 : List MapEntry} (h : (leftOf es seen).toList = L1 ++ e :: L2) : (leftOf es (seen.push e.born)).toList = L1 ++ L2 := by
  have h1 : (leftOf es (seen.push e.born)).toList = (leftOf es seen).toList.filter (fun x => !(x.born == e.born)) := by
    unfold leftOf
    rw [Array.toList_filter, Array.toList_filter, List.filter_filter]
    congr 1
    funext x
    rw [contains_push]
    cases seen.contains x.born <;> cases (x.born == e.born) <;> rfl
  have hn1 : ((L1 ++ e :: L2).map (·.born)).Nodup := by
    rw [← h]
    unfold leftOf
    rw [Array.toList_filter]
    exact hn.sublist (List.Sublist.map _ List.filter_sublist)
  rw [h1, h, List.filter_append, List.filter_cons]
  have : (!(e.born == e.born)) = false := by simp
  rw [this]
  simp only [Bool.false_eq_true, if_false]
  rw [List.map_append, List.map_cons, List.nodup_append] at hn1
  obtain ⟨_, n2, n3⟩ := hn1
  rw [List.nodup_cons] at n2
  congr 1
  · rw [List.filter_eq_self]
    intro x hx
    have := n3 x.born (List.mem_map_of_mem hx) e.born (List.mem_cons_self ..)
    simpa using this
  · rw [List.filter_eq_self]
    intro x hx
    have : x.born ≠ e.born := fun E => n2.1 (by rw [← E]; exact List.mem_map_of_mem hx)
    simpa using this

/-- The step of a loop over a map keyed by ids. -/
theorem wpList_next_id (w : World) (hg : o.guard = none) (it : Operand) (hop : o.op = Op.next it false) (b r : Nat) (l rem : List (Id × Value)) (hit : a.eval it = .pointer (some ⟨r, 0, none⟩)) (h : RangeIs w b r l rem)
    (hDone : rem = [] → wpList Try.prog ops Q rest (a.put o.dst (.tuple #[.bool false])) w)
    (hMore : ∀ (k1 k2 : Int) (v : Value) (pre post : List (Id × Value)) (w' : World), rem = pre ++ ((k1, k2), v) :: post → RangeIs w' b r l (pre ++ post) → w.grownBy w' (some r) → w'.heap.size = w.heap.size →
      (Instr.entry (.pointer (some ⟨r, 0, none⟩))).run Try.prog w' = .ok (.tuple #[.agg #[.int .i64 k1, .int .i64 k2], v]) w' → wpList Try.prog ops Q rest (a.put o.dst (.tuple #[.bool true, .agg #[.int .i64 k1, .int .i64 k2], v])) w') : wpList Try.prog ops Q (o :: rest) a w := by
  refine wpList_plain hg fun K' hK' => ?_
  obtain ⟨es, clock, since, seen, c0, h1, h2, h3, h4, h5, h6, h7, h8⟩ := h
  have hlt := (Array.getElem?_eq_some_iff.1 h4).1
  have hbr : b ≠ r := fun e => by subst e; rw [h1] at h4; cases h4
  unfold Oper.wp
  rcases run_next_at (P := Try.prog) w o.type r b since c0 seen es clock h4 h1 h5 h6 with ⟨h0, hrun⟩ | ⟨e, he, w1, hw1, hrun⟩
  · simp [execOp, hop, hit, hrun, Result.andThen]
    refine hK' _ _ (hDone ?_)
    have := congrArg List.length h8
    simp [h0] at this
    exact List.eq_nil_of_length_eq_zero this.symm
  · obtain ⟨L1, L2, hL⟩ := List.append_of_mem he
    have hb1 : w1.heap[b]? = some (.map es clock) := by rcases hw1 with rfl | rfl <;> exact h1
    have hl1 : r < w1.heap.size := by rcases hw1 with rfl | rfl <;> exact hlt
    have hs1 : w1.heap.size = w.heap.size := by rcases hw1 with rfl | rfl <;> rfl
    have hmb : (ChangeMaps.setBlock w1 r (.mapIter (some b) since (seen.push e.born) clock)).heap[b]? = some (.map es clock) := by
      unfold ChangeMaps.setBlock
      show (w1.heap.setIfInBounds r _)[b]? = _
      rw [Array.getElem?_setIfInBounds_ne (fun e => hbr e.symm)]; exact hb1
    have hmr : (ChangeMaps.setBlock w1 r (.mapIter (some b) since (seen.push e.born) clock)).heap[r]? = some (.mapIter (some b) since (seen.push e.born) clock) := by
      unfold ChangeMaps.setBlock
      show (w1.heap.setIfInBounds r _)[r]? = _
      simp [hl1]
    have hm := h8
    rw [hL, List.map_append, List.map_cons] at hm
    obtain ⟨pre, rest', rfl, hp, hr'⟩ := List.append_eq_map_iff.1 hm
    obtain ⟨x, post, rfl, hx, hq⟩ := List.map_eq_cons_iff.1 hr'
    obtain ⟨⟨k1, k2⟩, v⟩ := x
    simp only [Prod.mk.injEq] at hx
    obtain ⟨hk, hv⟩ := hx
    have hmem := (mem_left he).1
    have hen := run_entry_at (P := Try.prog) _ r b since seen es clock e hmr hmb hmem h3.1
    rw [← hk, ← hv] at hrun hen
    have hgr : w.grownBy (ChangeMaps.setBlock w1 r (.mapIter (some b) since (seen.push e.born) clock)) (some r) := by
      refine ⟨by rcases hw1 with rfl | rfl <;> rfl, by rcases hw1 with rfl | rfl <;> rfl, by rcases hw1 with rfl | rfl <;> rfl, by simp [ChangeMaps.setBlock, hs1], fun j hj hne => ?_⟩
      unfold ChangeMaps.setBlock
      show (w1.heap.setIfInBounds r _)[j]? = _
      rw [Array.getElem?_setIfInBounds_ne (fun e => hne (by rw [e]))]
      rcases hw1 with rfl | rfl <;> rfl
    simp [execOp, hop, hit, hrun, Result.andThen]
    exact hK' _ _ (hMore k1 k2 v pre post _ rfl ⟨es, clock, since, seen.push e.born, clock, hmb, h2, h3, hmr, h5, h7, h7, by rw [left_pushed es seen e h3.1 hL, List.map_append, List.map_append, hp, hq]⟩ hgr (by simp [ChangeMaps.setBlock, hs1]) hen)
end
end Go.Proofs.Ytgmlhpkhecbkoaa
namespace Go.Proofs.Ytgmlhpkhecbkoaa
open Go.RowKit

theorem Below.comp {a b c : World} (h : Below a.heap.size a b) (k : Below b.heap.size b c) : Below a.heap.size a c := h.trans (k.mono h.size)
/-- The tag 1 for all that is new. -/
def newOwn (N : Nat) : Tags := fun k => if N ≤ k then 1 else 0
theorem Row.isNew {W W1 : World} {own1 : Tags} {N : Nat} {e : TypeId} {size : Nat} {v : Value} {n : Nat} {xs : List Value} (tr : Tr (fun _ => 0) 1 W own1 W1) (hN : N ≤ W.heap.size) (r : Row W1 own1 1 e size v n xs) : Row W1 (newOwn N) 1 e size v n xs :=
  ⟨r.1, fun g hg => by
    have h1 := r.2 g hg
    unfold newOwn
    rcases Nat.lt_or_ge g W.heap.size with h | h
    · rw [tr.same g h] at h1; cases h1
    · rw [if_pos (by omega)]⟩
theorem Tr.isNew {W W1 : World} {own1 : Tags} (tr : Tr (fun _ => 0) 1 W own1 W1) : Below W.heap.size W W1 := tr.toBelow (fun k _ => by decide)
theorem getKV_of_mem {k : Id} {v : Value} : ∀ {l : List (Id × Value)}, (l.map Prod.fst).Nodup → (k, v) ∈ l → getKV k l = some v
  | (q, u) :: r, hn, hm => by
    simp only [List.map_cons, List.nodup_cons] at hn
    simp only [getKV]
    rcases List.mem_cons.1 hm with e | e
    · cases e; rw [if_pos rfl]
    · have : ¬ q = k := fun h => hn.1 (by rw [h]; exact List.mem_map_of_mem (f := Prod.fst) e)
      rw [if_neg this]
      exact getKV_of_mem hn.2 e
theorem RangeIs.mem {w : World} {b r : Nat} {l rem : List (Id × Value)} (h : RangeIs w b r l rem) {x : Id × Value} (hx : x ∈ rem) : x ∈ l := by
  obtain ⟨es, clock, since, seen, c0, h1, h2, _, _, _, _, _, h8⟩ := h
  have hm := List.mem_map_of_mem (f := fun p : Id × Value => (idv p.1, p.2)) hx
  rw [← h8] at hm
  obtain ⟨e, he, ee⟩ := List.mem_map.1 hm
  have h3 := List.mem_map_of_mem (f := fun e : MapEntry => (e.key, e.val)) (mem_left he).1
  rw [h2, ee] at h3
  obtain ⟨y, hy, ey⟩ := List.mem_map.1 h3
  obtain ⟨⟨y1, y2⟩, yv⟩ := y
  obtain ⟨⟨x1, x2⟩, xv⟩ := x
  simp only [idv, Prod.mk.injEq, Value.agg.injEq, Array.mk.injEq, List.cons.injEq, Value.int.injEq, true_and, and_true] at ey
  obtain ⟨⟨e1, e2⟩, e3⟩ := ey
  rw [← e1, ← e2, ← e3]; exact hy
theorem RangeIs.iter {w : World} {b r : Nat} {l rem : List (Id × Value)} (h : RangeIs w b r l rem) : ∃ o : Obj, w.heap[r]? = some o ∧ o.isCells = false := by
  obtain ⟨es, clock, since, seen, c0, _, _, _, h4, _⟩ := h
  exact ⟨_, h4, rfl⟩
theorem RangeIs.ne_map {w : World} {b r s : Nat} {l rem m : List (Id × Value)} (h : RangeIs w b r l rem) (k : MapIs w s m) : r ≠ s := fun e => by
  obtain ⟨es, clock, since, seen, c0, _, _, _, h4, _⟩ := h
  obtain ⟨_, _, k1, _⟩ := k
  rw [e, k1] at h4; cases h4

/-- The clone's parts: all new. -/
structure CN0 (w W : World) (first : List Id) (puts cuts : List (Id × Id)) (vF : Value) (s h : Nat) (vD : Value) (b : Nat) : Prop where
  bel : Below w.heap.size w W
  rF : Row W (newOwn w.heap.size) 1 24 2 vF first.length (idCells first)
  nS : w.heap.size ≤ s
  mS : MapIs W s (thereOf first puts)
  nH : w.heap.size ≤ h
  mH : MapIs W h []
  nB : w.heap.size ≤ b
  mB : MapIs W b (byOf cuts)
  rD : Row W (newOwn w.heap.size) 1 113 4 vD cuts.length (cutCells cuts)
  sh : s ≠ h
  sb : s ≠ b
  hb : h ≠ b
/-- The clone so far: its map of what hangs is hl. -/
structure CN (w W : World) (q : Nat) (first : List Id) (puts cuts : List (Id × Id)) (vF : Value) (s h : Nat) (vD : Value) (b : Nat) (hl : List (Id × Value)) : Prop where
  bel : Below w.heap.size w W
  nq : w.heap.size ≤ q
  blk : Blk W q 100 #[vF, .map (some s), .map (some h), vD, .map (some b)]
  rF : Row W (newOwn w.heap.size) 1 24 2 vF first.length (idCells first)
  nS : w.heap.size ≤ s
  mS : MapIs W s (thereOf first puts)
  nH : w.heap.size ≤ h
  mH : MapIs W h hl
  nB : w.heap.size ≤ b
  mB : MapIs W b (byOf cuts)
  rD : Row W (newOwn w.heap.size) 1 113 4 vD cuts.length (cutCells cuts)
  sh : s ≠ h
  sb : s ≠ b
  hb : h ≠ b
/-- What hangs: rows of its own. -/
structure CR (N : Nat) (W : World) (puts : List (Id × Id)) (hl0 rem : List (Id × Value)) (vF : Value) (hl : List (Id × Value)) : Prop where
  rows : ∀ k v, getKV k hl = some v → Row W (newOwn N) 1 24 2 v (kids puts k).length (idCells (kids puts k))
  bare : ∀ k, getKV k hl = none → getKV k hl0 = none ∨ k ∈ rem.map Prod.fst
  apart : ∀ k v g, getKV k hl = some v → v.ownBlock = some g → vF.ownBlock ≠ some g ∧ ∀ k' v', k' ≠ k → getKV k' hl = some v' → v'.ownBlock ≠ some g
section
variable {w W W1 : World} {q : Nat} {first : List Id} {puts cuts : List (Id × Id)} {vF : Value} {s h : Nat} {vD : Value} {b : Nat} {hl hl0 rem : List (Id × Value)} {N : Nat}
theorem CN0.boxed (c : CN0 w W first puts cuts vF s h vD b) : CN w (W.alloc (.cells #[vF, .map (some s), .map (some h), vD, .map (some b)] 100)) W.heap.size first puts cuts vF s h vD b [] :=
  ⟨c.bel.trans (((Below.refl _ W).alloc (Nat.le_refl _) _).mono c.bel.size), c.bel.size, Blk.new W 100 _, c.rF.keep (Same.alloc _), c.nS, c.mS.alloc _, c.nH, c.mH.alloc _, c.nB, c.mB.alloc _, c.rD.keep (Same.alloc _), c.sh, c.sb, c.hb⟩
theorem CN.next (c : CN w W q first puts cuts vF s h vD b hl) (k : Below W.heap.size W W1) : CN w W1 q first puts cuts vF s h vD b hl :=
  ⟨c.bel.trans (k.mono c.bel.size), c.nq, c.blk.kept (k.block q c.blk.lt), c.rF.keep (Same.below k), c.nS, c.mS.kept (k.block s c.mS.lt), c.nH, c.mH.kept (k.block h c.mH.lt), c.nB, c.mB.kept (k.block b c.mB.lt), c.rD.keep (Same.below k), c.sh, c.sb, c.hb⟩
theorem CN.iter (c : CN w W q first puts cuts vF s h vD b hl) {r : Nat} (hr : ∃ o : Obj, W.heap[r]? = some o ∧ o.isCells = false) (hN : w.heap.size ≤ r) (h1 : r ≠ s) (h2 : r ≠ h) (h3 : r ≠ b) (hg : W.grownBy W1 (some r)) : CN w W1 q first puts cuts vF s h vD b hl :=
  have hr' : ∀ r', some r = some r' → ∃ o : Obj, W.heap[r']? = some o ∧ o.isCells = false := fun r' e => by cases e; exact hr
  ⟨c.bel.grown hg c.bel.size (fun k e => by cases e; exact hN), c.nq, c.blk.own hg hr', c.rF.own hg hr', c.nS, c.mS.past hg (fun e => h1 (Option.some.inj e)), c.nH, c.mH.past hg (fun e => h2 (Option.some.inj e)), c.nB, c.mB.past hg (fun e => h3 (Option.some.inj e)), c.rD.own hg hr', c.sh, c.sb, c.hb⟩
theorem CN.put (c : CN w W q first puts cuts vF s h vD b hl) {hl1 : List (Id × Value)} (hm : MapIs W1 h hl1) (hg : W.grownBy W1 (some h)) : CN w W1 q first puts cuts vF s h vD b hl1 := by
  have hr' : ∀ r', some h = some r' → ∃ o : Obj, W.heap[r']? = some o ∧ o.isCells = false := fun r' e => by
    cases e
    obtain ⟨_, _, h1, _⟩ := c.mH
    exact ⟨_, h1, rfl⟩
  exact ⟨c.bel.grown hg c.bel.size (fun k e => by cases e; exact c.nH), c.nq, c.blk.own hg hr', c.rF.own hg hr', c.nS, c.mS.past hg (fun e => c.sh (Option.some.inj e).symm), c.nH, hm, c.nB, c.mB.past hg (fun e => c.hb (Option.some.inj e)), c.rD.own hg hr', c.sh, c.sb, c.hb⟩
theorem CR.next (c : CR N W puts hl0 rem vF hl) (k : Below W.heap.size W W1) : CR N W1 puts hl0 rem vF hl :=
  ⟨fun i v hv => (c.rows i v hv).keep (Same.below k), c.bare, c.apart⟩
theorem CR.own (c : CR N W puts hl0 rem vF hl) {r : Nat} (hr : ∃ o : Obj, W.heap[r]? = some o ∧ o.isCells = false) (hg : W.grownBy W1 (some r)) : CR N W1 puts hl0 rem vF hl :=
  ⟨fun i v hv => (c.rows i v hv).own hg (fun r' e => by cases e; exact hr), c.bare, c.apart⟩
theorem CR.put {pre post : List (Id × Value)} {k : Id} {v0 v : Value} (c : CR N W puts hl0 (pre ++ (k, v0) :: post) vF hl) (hr : Row W (newOwn N) 1 24 2 v (kids puts k).length (idCells (kids puts k))) (hF : ∀ g, v.ownBlock = some g → vF.ownBlock ≠ some g) (hn : ∀ g, v.ownBlock = some g → ∀ k' v', getKV k' hl = some v' → v'.ownBlock ≠ some g) :
    CR N W puts hl0 (pre ++ post) vF (putKV k v hl) := by
  refine ⟨fun i u hu => ?_, fun i hi => ?_, fun i u g hu hg => ?_⟩
  · rw [getKV_put] at hu
    split at hu
    · rename_i e; cases hu; rw [e]; exact hr
    · exact c.rows i u hu
  · rw [getKV_put] at hi
    split at hi
    · cases hi
    · rename_i e
      rcases c.bare i hi with h1 | h1
      · exact .inl h1
      · right
        simp only [List.map_append, List.map_cons, List.mem_append, List.mem_cons] at h1 ⊢
        rcases h1 with h1 | h1 | h1
        · exact .inl h1
        · exact absurd h1 e
        · exact .inr h1
  · rw [getKV_put] at hu
    split at hu
    · rename_i e
      cases hu
      refine ⟨hF g hg, fun k' v' hk hv => ?_⟩
      rw [getKV_put, if_neg (fun h => hk (h.trans e.symm))] at hv
      exact hn g hg k' v' hv
    · rename_i e
      obtain ⟨a1, a2⟩ := c.apart i u g hu hg
      refine ⟨a1, fun k' v' hk hv => ?_⟩
      rw [getKV_put] at hv
      split at hv
      · cases hv
        intro h1
        exact hn g h1 i u hu hg
      · exact a2 k' v' hk hv
end
/-- The tag 1 for what lies from N on, up to M. -/
def newIn (N M : Nat) : Tags := fun k => if N ≤ k ∧ k < M then 1 else 0
theorem Row.inNew {W : World} {N : Nat} {e : TypeId} {size : Nat} {v : Value} {n : Nat} {xs : List Value} (r : Row W (newOwn N) 1 e size v n xs) : Row W (newIn N W.heap.size) 1 e size v n xs :=
  ⟨r.1, fun g hg => by
    have h1 := r.2 g hg
    have h2 := (r.1.lt g hg).2
    unfold newOwn at h1
    unfold newIn
    split at h1
    · rw [if_pos ⟨by assumption, h2⟩]
    · cases h1⟩
/-- A clone is handed back; all of it is new. -/
def SClP (w : World) (first : List Id) (puts cuts : List (Id × Id)) (e : Ending) (w' : World) : Prop :=
  ∃ q, e = .returned (.pointer (some ⟨q, 0, none⟩)) ∧ w.heap.size ≤ q ∧ Below w.heap.size w w' ∧ ShAt w' (newIn w.heap.size w'.heap.size) 1 q first puts cuts
theorem CN.done {w W : World} {q : Nat} {first : List Id} {puts cuts : List (Id × Id)} {vF : Value} {s h : Nat} {vD : Value} {b : Nat} {hl hl0 : List (Id × Value)} (c : CN w W q first puts cuts vF s h vD b hl) (r : CR w.heap.size W puts hl0 [] vF hl) (hb : ∀ k, getKV k hl0 = none → kids puts k = []) (wf0 : Wf first puts) (cnd0 : (cuts.map Prod.snd).Nodup) :
    SClP w first puts cuts (.returned (.pointer (some ⟨q, 0, none⟩))) W := by
  have tg : ∀ {k}, w.heap.size ≤ k → k < W.heap.size → newIn w.heap.size W.heap.size k = 1 := fun h1 h2 => by unfold newIn; rw [if_pos ⟨h1, h2⟩]
  exact ⟨q, rfl, c.nq, c.bel, wf0, cnd0, vF, s, h, vD, b, hl, tg c.nq c.blk.lt, c.blk, c.rF.inNew, tg c.nS c.mS.lt, c.mS, tg c.nH c.mH.lt, c.mH, tg c.nB c.mB.lt, c.mB, c.rD.inNew, c.sh, c.sb, c.hb, fun k v hv => (r.rows k v hv).inNew, fun k hk => by
    rcases r.bare k hk with h1 | h1
    · exact hb k h1
    · simp at h1, r.apart⟩

set_option maxRecDepth 100000 in
set_option maxHeartbeats 4000000 in
theorem sclone_c (w : World) (own : Tags) (t p : Nat) (first : List Id) (puts cuts : List (Id × Id)) (h : ShAt w own t p first puts cuts) (hcl : cuts.length ≤ 1000) :
    Calls Try.prog 51 #[.pointer (some ⟨p, 0, none⟩)] w (SClP w first puts cuts) := by
  obtain ⟨wf0, cnd0, vF, s, hh, vD, b, hl, a⟩ := h
  have hfl : first.length ≤ 1000 := by have := wf0.len; omega
  have HW := Lib.hid (And.intro wf0 cnd0)
  obtain ⟨AF, cF, rfl, _⟩ := a.rF.form
  obtain ⟨AD, cD, rfl, _⟩ := a.rD.form
  have HA := Lib.hid a
  have HAC : Hid (∀ W', Below w.heap.size w W' → AllCells W' [(⟨p, 0, none⟩, .slice AF first.length cF), (⟨p, 1, none⟩, .map (some s)), (⟨p, 3, none⟩, .slice AD cuts.length cD), (⟨p, 4, none⟩, .map (some b))]) := fun W' hW' => by
    have hb := HA.out.blk.kept (hW'.block p HA.out.blk.lt)
    exact ⟨hb.cell 0, hb.cell 1, hb.cell 3, hb.cell 4, trivial⟩
  have B0 : Hid (Below w.heap.size w w.drew) := (Below.refl _ w).drew
  clear a wf0 cnd0
  go_enter Try.func51, Try.ntmps51
  go_wp2_with fail
  rename_i Q' K hK
  have fin : ∀ {W : World} {q : Nat} {vF' : Value} {s' h' : Nat} {vD' : Value} {b' : Nat} {x9 x10 x11 x12 x13 x14 x15 x16 x17 x18 x19 x20 x21 x22 x23 x24 x25 x26 x27 x28 x29 x30 : Value}, CN w W q first puts cuts vF' s' h' vD' b' [] →
      K { tmps := #[.pointer (some ⟨p, 0, none⟩), undef, .pointer none, .pointer (some ⟨q, 0, none⟩), undef, undef, .pointer (some ⟨p, 0, none⟩), .bool false, undef, x9, x10, x11, x12, x13, x14, x15, x16, x17, x18, x19, x20, x21, x22, x23, x24, x25, x26, x27, x28, x29, x30, .pointer (some ⟨q, 0, none⟩), undef, undef, undef, undef, undef, undef, undef, undef, undef, undef, undef, undef, undef, undef, undef, undef, undef, undef], defers := [] } W := by
    intro W q vF' s' h' vD' b' x9 x10 x11 x12 x13 x14 x15 x16 x17 x18 x19 x20 x21 x22 x23 x24 x25 x26 x27 x28 x29 x30 hcn
    refine hK _ _ ?_
    have hbp := HA.out.blk.kept (hcn.bel.block p HA.out.blk.lt)
    have c2 := hbp.cell 2
    have hpl := hbp.lt
    simp only [List.getElem?_toArray, List.getElem?_cons_zero, List.getElem?_cons_succ] at c2
    have MHs := Lib.hid (HA.out.mH.kept (hcn.bel.block hh HA.out.mH.lt))
    have HCN := Lib.hid hcn
    clear hcn hbp hK B0
    go_wp2_with (at_range; refine wpList_range_id _ rfl _ 97 rfl _ Try.underlying97 hh hl rfl MHs.out ?_; intro w0 hrg0 hb0 hs0)
    go_frame
    have ST : Hid (RangeIs w0 hh W.heap.size hl hl ∧ CN w w0 q first puts cuts vF' s' h' vD' b' [] ∧ CR w.heap.size w0 puts hl hl vF' []) := ⟨hrg0, HCN.out.next hb0, fun k v hv => by simp [getKV] at hv, fun k _ => by
      by_cases hk : k ∈ hl.map Prod.fst
      · exact .inr hk
      · left
        have := getKV_map_some k hl id
        simp only [List.map_id, id] at this
        rw [decide_eq_false hk] at this
        simpa using this, fun k v g hv => by simp [getKV] at hv⟩
    have HN := Lib.hid HCN.out.bel.size
    have hnd : Hid ((hl.map Prod.fst).Nodup) := by
      obtain ⟨_, _, _, _, _, hn⟩ := HA.out.mH
      exact hn
    clear hrg0 hb0 hs0 HCN MHs c2 hpl
    generalize W.heap.size = r at *
    go_loopw [4] (fun _ wr => ∃ rem hl', RangeIs wr hh r hl rem ∧ CN w wr q first puts cuts vF' s' h' vD' b' hl' ∧ CR w.heap.size wr puts hl rem vF' hl') (fun _ wr => leftNum wr hh r)
    case atStart => exact ⟨hl, [], ST.out⟩
    case round =>
      clear ST
      obtain ⟨rem, hl', hrg, hcn, hcr⟩ := hrel
      have RG := Lib.hid hrg
      have CNh := Lib.hid hcn
      have CRh := Lib.hid hcr
      clear hrg hcn hcr
      go_wp2_with (at_next; refine wpList_next_id _ rfl _ rfl hh r hl rem rfl RG.out ?_ ?_)
      · intro hr0
        subst hr0
        go_wp2_with fail
        go_ret
        exact CNh.out.done CRh.out HA.out.bare HW.out.1 HW.out.2
      · intro k1 k2 v pre post w1 hrem hrg1 hg1 hs1 hen
        subst hrem
        have hkv := getKV_of_mem hnd.out (RG.out.mem (x := ((k1, k2), v)) (by simp))
        have hrow0 := (HA.out.rows _ _ hkv)
        obtain ⟨AV, cV, rfl, _⟩ := hrow0.form
        have cn1 := CNh.out.iter RG.out.iter HN.out (RG.out.ne_map CNh.out.mS) (RG.out.ne_map CNh.out.mH) (RG.out.ne_map CNh.out.mB) hg1
        have cr1 := CRh.out.own RG.out.iter hg1
        have row1 := Lib.hid (hrow0.keep (Same.below cn1.bel))
        have CN1 := Lib.hid cn1
        have CR1 := Lib.hid cr1
        have RG1 := Lib.hid hrg1
        have HL := Lib.hid (show leftNum w1 hh r < leftNum wr hh r by
          rw [hrg1.num, RG.out.num]; simp)
        have hkl : (kids puts (k1, k2)).length ≤ 1000 := by
          have := kids_le puts (k1, k2)
          have := HW.out.1.len
          omega
        clear hkv hrow0 cn1 cr1 hrg1 hg1 hs1 CNh CRh RG
        go_wp2_with fail
        have bl2 : Below w1.heap.size w1 (w1.alloc (.cells #[.int .i64 k1, .int .i64 k2] 24)).drew := ((Below.refl _ _).alloc (Nat.le_refl _) _).drew
        have CN2 := Lib.hid (CN1.out.next bl2)
        have CR2 := Lib.hid (CR1.out.next bl2)
        have RG2 := Lib.hid (RG1.out.kept (bl2.block hh RG1.out.lt.1) (bl2.block r RG1.out.lt.2))
        have row2 := Lib.hid (row1.out.keep (Same.below (own := own) bl2))
        have X2 : Hid (Blk (w1.alloc (.cells #[.int .i64 k1, .int .i64 k2] 24)).drew w1.heap.size 24 #[.int .i64 k1, .int .i64 k2]) := Blk.new w1 24 _
        rw [RG1.out.num] at HL
        have HC : AllCells (w1.alloc (.cells #[.int .i64 k1, .int .i64 k2] 24)).drew [(⟨q, 2, none⟩, .map (some h')), (⟨w1.heap.size, 0, none⟩, .int .i64 k1), (⟨w1.heap.size, 1, none⟩, .int .i64 k2)] := ⟨CN2.out.blk.cell 2, X2.out.cell 0, X2.out.cell 1, trivial⟩
        clear bl2 CN1 CR1 RG1 row1 hen
        refine region_free _ [0, 1, 2, 3, 4, 5] 2 (by kernel_rfl) (by kernel_rfl) (by kernel_rfl) (by kernel_rfl) (by kernel_rfl) (fun _ _ _ _ _ h => h) HC ?_
        intro hne hu
        simp only [AllCells] at hu
        simp only [pick, List.take_succ_cons, List.take_zero, List.drop_succ_cons, List.drop_zero, List.cons_append, List.nil_append]
        repeat (go_big_quiet_step (fail))
        refine wpQuiet_nil ?_
        clear hne hu HC
        generalize (w1.alloc (.cells #[.int .i64 k1, .int .i64 k2] 24)).drew = W2 at *
        generalize w1.heap.size = XB at *
        refine anyN_oneL 6 (by kernel_rfl) ?_
        simp only [List.take_succ_cons, List.take_zero, List.drop_succ_cons, List.drop_zero]
        go_wp2_with fail
        refine (clone_c AV (kids puts (k1, k2)).length cV (kids puts (k1, k2)) W2 (fun _ => 0) 0 1 row2.out.toIdsR.2.plain rfl (by omega)).mono ?_
        rintro e w3 ⟨vN, own1, rfl, tr1, row3⟩
        obtain ⟨AN, cN, hv, _⟩ := row3.form
        subst hv
        have b3 := tr1.isNew
        have CN3 := Lib.hid (CN2.out.next b3)
        have CR3 := Lib.hid (CR2.out.next b3)
        have RG3 := Lib.hid (RG2.out.kept (b3.block hh RG2.out.lt.1) (b3.block r RG2.out.lt.2))
        have R3 := Lib.hid (row3.isNew tr1 CN2.out.bel.size)
        have X3 := Lib.hid (X2.out.kept (b3.block XB X2.out.lt))
        have NB : ∀ g, (Value.slice AN (kids puts (k1, k2)).length cN).ownBlock = some g → W2.heap.size ≤ g := fun g hg => by
          have h1 := row3.2 g hg
          rcases Nat.lt_or_ge g W2.heap.size with h | h
          · rw [tr1.same g h] at h1; cases h1
          · exact h
        have HF : Hid (∀ g, (Value.slice AN (kids puts (k1, k2)).length cN).ownBlock = some g → vF'.ownBlock ≠ some g) := fun g hg e => by
          have h1 := NB g hg
          have h2 := (CN2.out.rF.1.lt g e).2
          omega
        have HO : Hid (∀ g, (Value.slice AN (kids puts (k1, k2)).length cN).ownBlock = some g → ∀ k' v', getKV k' hl' = some v' → v'.ownBlock ≠ some g) := fun g hg k' v' hv' e => by
          have h1 := NB g hg
          have h2 := ((CR2.out.rows k' v' hv').1.lt g e).2
          omega
        have HIT : Hid (∃ o : Obj, w3.heap[h']? = some o ∧ o.isCells = false) := by
          obtain ⟨_, _, h1, _⟩ := CN3.out.mH
          exact ⟨_, h1, rfl⟩
        clear tr1 row3 b3 NB CN2 CR2 RG2 X2 row2
        go_wp2_with fail
        refine And.intro (fun _ => ⟨CN3.out.blk.cell 2, X3.out.cell 0, X3.out.cell 1, trivial⟩) ?_
        refine anyN_oneL 7 (by kernel_rfl) ?_
        simp only [List.take_succ_cons, List.take_zero, List.drop_succ_cons, List.drop_zero]
        refine wpList_mapUpdate_id w3 rfl _ _ _ 97 rfl 22 Try.underlying97 h' hl' rfl CN3.out.mH k1 k2 (.slice AN (kids puts (k1, k2)).length cN) rfl rfl ?_
        intro w4 hm4 hg4
        have hr4 : ∀ r', some h' = some r' → ∃ o : Obj, w3.heap[r']? = some o ∧ o.isCells = false := fun r' e => by cases e; exact HIT.out
        have CN4 := Lib.hid (CN3.out.put hm4 hg4)
        have CR4 := Lib.hid ((CR3.out.own HIT.out hg4).put (R3.out.own hg4 hr4) HF.out HO.out)
        have RG4 := Lib.hid (RG3.out.kept (hg4.block hh RG3.out.lt.1 (fun e => by
          have h1 := HA.out.mH.lt
          have h2 := CN3.out.nH
          have h3 : hh = h' := Option.some.inj e
          omega)) (hg4.block r RG3.out.lt.2 (fun e => RG3.out.ne_map CN3.out.mH (Option.some.inj e))))
        have X4 := Lib.hid (X3.out.own hg4 hr4)
        clear hm4 hg4 hr4 CN3 CR3 RG3 X3 HIT HF HO R3
        simp only [Exit.then]
        refine And.intro (fun _ => ⟨CN4.out.blk.cell 2, X4.out.cell 0, X4.out.cell 1, trivial⟩) ?_
        refine ⟨by kernel_rfl, ?_⟩
        go_frame
        go_roundw
        case rel => exact ⟨_, _, _, _, _, _, _, _, _, _, _, _, _, _, ⟨_, _, RG4.out, CN4.out, CR4.out⟩, rfl⟩
        case measure => rw [RG4.out.num]; exact HL.out
  have HC : AllCells w.drew [(⟨p, 0, none⟩, .slice AF first.length cF), (⟨p, 1, none⟩, .map (some s)), (⟨p, 3, none⟩, .slice AD cuts.length cD), (⟨p, 4, none⟩, .map (some b))] := HAC.out _ B0.out
  clear hK
  refine region_free _ [0, 1, 2, 3, 5, 6, 7, 8, 11, 12, 13, 14, 16, 17, 18, 19] 8 (by kernel_rfl) (by kernel_rfl) (by kernel_rfl) (by kernel_rfl) (by kernel_rfl) (fun _ _ _ _ _ h => h) HC ?_
  intro hne hu
  simp only [AllCells] at hu
  simp only [pick, List.take_succ_cons, List.take_zero, List.drop_succ_cons, List.drop_zero, List.cons_append, List.nil_append]
  repeat (go_big_quiet_step (fail))
  refine wpQuiet_nil ?_
  clear hne hu HC
  generalize w.drew = W0 at *
  refine anyN_twoL 4 10 (by kernel_rfl) ?_ ?_
  · simp only [List.take_succ_cons, List.take_zero, List.drop_succ_cons, List.drop_zero]
    go_wp2_with fail
    refine (clone_c AF first.length cF first W0 (fun _ => 0) 0 1 (HA.out.rF.keep (Same.below B0.out)).toIdsR.2.plain rfl (by omega)).mono ?_
    rintro e W1 ⟨vF', own1, rfl, tr1, row1⟩
    obtain ⟨AF', cF', hv, _⟩ := row1.form
    subst hv
    have D1 := Lib.hid tr1.isNew
    have RF := Lib.hid (row1.isNew tr1 B0.out.size)
    clear tr1 row1
    have B1 := Lib.hid (B0.out.trans (D1.out.mono B0.out.size))
    go_wp2_with fail
    first | refine And.intro (fun _ => HAC.out _ B1.out) ?_ | refine And.intro (HAC.out _ B1.out) ?_
    refine anyN_twoL 9 10 (by kernel_rfl) ?_ ?_
    · simp only [List.take_succ_cons, List.take_zero, List.drop_succ_cons, List.drop_zero]
      go_wp2_with fail
      refine (mclone_c s (thereOf first puts) W1 (HA.out.mS.kept (B1.out.block s HA.out.mS.lt))).mono ?_
      rintro e W2 ⟨rfl, hm, hb, hsz⟩
      have D2 := Lib.hid hb
      have MS := Lib.hid (And.intro B1.out.size hm)
      have HS := Lib.hid hm.lt
      clear hm hb hsz
      obtain ⟨s', hgs⟩ : ∃ n, n = W1.heap.size := ⟨_, rfl⟩
      rw [← hgs] at MS ⊢
      have GS := Lib.hid hgs
      clear hgs
      have B2 := Lib.hid (B1.out.trans (D2.out.mono B1.out.size))
      go_wp2_with fail
      first | refine And.intro (fun _ => HAC.out _ B2.out) ?_ | refine And.intro (HAC.out _ B2.out) ?_
      refine anyN_twoL 10 15 (by kernel_rfl) ?_ ?_
      · simp only [List.take_succ_cons, List.take_zero, List.drop_succ_cons, List.drop_zero]
        go_wp2_with fail
        have D3 := Lib.hid ((Below.refl _ W2).alloc (Nat.le_refl _) (.map #[] 0))
        have MH := Lib.hid (And.intro B2.out.size (MapIs.made W2))
        generalize hgw : W2.alloc (.map #[] 0) = W3 at *
        clear hgw
        obtain ⟨h', hgh⟩ : ∃ n, n = W2.heap.size := ⟨_, rfl⟩
        rw [← hgh] at MH ⊢
        have GH := Lib.hid hgh
        clear hgh
        have B3 := Lib.hid (B2.out.trans (D3.out.mono B2.out.size))
        first | refine And.intro (fun _ => HAC.out _ B3.out) ?_ | refine And.intro (HAC.out _ B3.out) ?_
        refine anyN_oneL 15 (by kernel_rfl) ?_
        simp only [List.take_succ_cons, List.take_zero, List.drop_succ_cons, List.drop_zero]
        go_wp2_with fail
        refine (dclone_c (.slice AD cuts.length cD) cuts.length cuts W3 (fun _ => 0) own t 1 (HA.out.rD.keep (Same.below B3.out)) (by omega)).mono ?_
        rintro e W4 ⟨vD', own1, rfl, tr1, row1⟩
        obtain ⟨AD', cD', hv, _⟩ := row1.form
        subst hv
        have D4 := Lib.hid tr1.isNew
        have RD := Lib.hid (row1.isNew tr1 B3.out.size)
        clear tr1 row1
        have B4 := Lib.hid (B3.out.trans (D4.out.mono B3.out.size))
        go_wp2_with fail
        first | refine And.intro (fun _ => HAC.out _ B4.out) ?_ | refine And.intro (HAC.out _ B4.out) ?_
        refine anyN_oneL 20 (by kernel_rfl) ?_
        simp only [List.take_succ_cons, List.take_zero, List.drop_succ_cons, List.drop_zero]
        go_wp2_with fail
        refine (mclone_c b (byOf cuts) W4 (HA.out.mB.kept (B4.out.block b HA.out.mB.lt))).mono ?_
        rintro e W5 ⟨rfl, hm, hb, hsz⟩
        have D5 := Lib.hid hb
        have MB := Lib.hid (And.intro B4.out.size hm)
        clear hm hb hsz
        obtain ⟨b', hgb⟩ : ∃ n, n = W4.heap.size := ⟨_, rfl⟩
        rw [← hgb] at MB ⊢
        have GB := Lib.hid hgb
        clear hgb
        have B5 := Lib.hid (B4.out.trans (D5.out.mono B4.out.size))
        go_wp2_with fail
        first | refine And.intro (fun _ => HAC.out _ B5.out) ?_ | refine And.intro (HAC.out _ B5.out) ?_
        have ZRF := RF.out.keep (own' := newOwn w.heap.size) (Same.below (Below.comp (Below.comp (Below.comp D2.out D3.out) D4.out) D5.out))
        have ZMS := And.intro MS.out.1 (MS.out.2.kept (((Below.comp (Below.comp D3.out D4.out) D5.out)).block _ MS.out.2.lt))
        have ZMH := And.intro MH.out.1 (MH.out.2.kept (((Below.comp D4.out D5.out)).block _ MH.out.2.lt))
        have ZRD := RD.out.keep (own' := newOwn w.heap.size) (Same.below D5.out)
        have ZMB := MB.out
        have qGS : s' < W2.heap.size := MS.out.2.lt
        have gGS := GS.out
        have qGH : h' < W3.heap.size := MH.out.2.lt
        have gGH := GH.out
        have qGB : b' < W5.heap.size := MB.out.2.lt
        have gGB := GB.out
        have e1 := D1.out.size
        have e2 := D2.out.size
        have e3 := D3.out.size
        have e4 := D4.out.size
        have e5 := D5.out.size
        have ne1 : s' ≠ h' := by omega
        have ne2 : s' ≠ b' := by omega
        have ne3 : h' ≠ b' := by omega
        have FZ : Hid (CN0 w W5 first puts cuts (.slice AF' first.length cF') s' h' (.slice AD' cuts.length cD') b') := ⟨B5.out, ZRF, ZMS.1, ZMS.2, ZMH.1, ZMH.2, ZMB.1, ZMB.2, ZRD, ne1, ne2, ne3⟩
        clear ZRF ZMS ZMH ZMB ZRD qGS gGS qGH gGH qGB gGB e1 e2 e3 e4 e5 RF MS MH RD MB GS GB GH D1 D2 D3 D4 D5 B0 B1 B2 B3 B4 HS
        refine anyN_oneL 21 (by kernel_rfl) ?_
        simp only [List.take_succ_cons, List.take_zero, List.drop_succ_cons, List.drop_zero]
        go_wp2_with fail
        refine And.intro (fun _ => HAC.out _ B5.out) ?_
        refine anyN_oneL 22 (by kernel_rfl) ?_
        simp only [List.take_succ_cons, List.take_zero, List.drop_succ_cons, List.drop_zero]
        go_wp2_with fail
        refine And.intro (fun _ => HAC.out _ (B5.out.trans (((Below.refl _ W5).alloc (Nat.le_refl _) _).mono B5.out.size))) ?_
        refine anyN_oneL 23 (by kernel_rfl) ?_
        simp only [List.take_succ_cons, List.take_zero, List.drop_succ_cons, List.drop_zero]
        go_wp2_with fail
        refine And.intro (fun _ => HAC.out _ (B5.out.trans (((Below.refl _ W5).alloc (Nat.le_refl _) _).mono B5.out.size))) ?_
        refine ⟨by kernel_rfl, ?_⟩
        exact fin FZ.out.boxed
      · simp only [List.take_succ_cons, List.take_zero, List.drop_succ_cons, List.drop_zero]
        go_wp2_with fail
        refine (dclone_c (.slice AD cuts.length cD) cuts.length cuts W2 (fun _ => 0) own t 1 (HA.out.rD.keep (Same.below B2.out)) (by omega)).mono ?_
        rintro e W3 ⟨vD', own1, rfl, tr1, row1⟩
        obtain ⟨AD', cD', hv, _⟩ := row1.form
        subst hv
        have D3 := Lib.hid tr1.isNew
        have RD := Lib.hid (row1.isNew tr1 B2.out.size)
        clear tr1 row1
        have B3 := Lib.hid (B2.out.trans (D3.out.mono B2.out.size))
        go_wp2_with fail
        first | refine And.intro (fun _ => HAC.out _ B3.out) ?_ | refine And.intro (HAC.out _ B3.out) ?_
        refine anyN_twoL 10 20 (by kernel_rfl) ?_ ?_
        · simp only [List.take_succ_cons, List.take_zero, List.drop_succ_cons, List.drop_zero]
          go_wp2_with fail
          have D4 := Lib.hid ((Below.refl _ W3).alloc (Nat.le_refl _) (.map #[] 0))
          have MH := Lib.hid (And.intro B3.out.size (MapIs.made W3))
          generalize hgw : W3.alloc (.map #[] 0) = W4 at *
          clear hgw
          obtain ⟨h', hgh⟩ : ∃ n, n = W3.heap.size := ⟨_, rfl⟩
          rw [← hgh] at MH ⊢
          have GH := Lib.hid hgh
          clear hgh
          have B4 := Lib.hid (B3.out.trans (D4.out.mono B3.out.size))
          first | refine And.intro (fun _ => HAC.out _ B4.out) ?_ | refine And.intro (HAC.out _ B4.out) ?_
          refine anyN_oneL 20 (by kernel_rfl) ?_
          simp only [List.take_succ_cons, List.take_zero, List.drop_succ_cons, List.drop_zero]
          go_wp2_with fail
          refine (mclone_c b (byOf cuts) W4 (HA.out.mB.kept (B4.out.block b HA.out.mB.lt))).mono ?_
          rintro e W5 ⟨rfl, hm, hb, hsz⟩
          have D5 := Lib.hid hb
          have MB := Lib.hid (And.intro B4.out.size hm)
          clear hm hb hsz
          obtain ⟨b', hgb⟩ : ∃ n, n = W4.heap.size := ⟨_, rfl⟩
          rw [← hgb] at MB ⊢
          have GB := Lib.hid hgb
          clear hgb
          have B5 := Lib.hid (B4.out.trans (D5.out.mono B4.out.size))
          go_wp2_with fail
          first | refine And.intro (fun _ => HAC.out _ B5.out) ?_ | refine And.intro (HAC.out _ B5.out) ?_
          have ZRF := RF.out.keep (own' := newOwn w.heap.size) (Same.below (Below.comp (Below.comp (Below.comp D2.out D3.out) D4.out) D5.out))
          have ZMS := And.intro MS.out.1 (MS.out.2.kept (((Below.comp (Below.comp D3.out D4.out) D5.out)).block _ MS.out.2.lt))
          have ZRD := RD.out.keep (own' := newOwn w.heap.size) (Same.below (Below.comp D4.out D5.out))
          have ZMH := And.intro MH.out.1 (MH.out.2.kept ((D5.out).block _ MH.out.2.lt))
          have ZMB := MB.out
          have qGS : s' < W2.heap.size := MS.out.2.lt
          have gGS := GS.out
          have qGH : h' < W4.heap.size := MH.out.2.lt
          have gGH := GH.out
          have qGB : b' < W5.heap.size := MB.out.2.lt
          have gGB := GB.out
          have e1 := D1.out.size
          have e2 := D2.out.size
          have e3 := D3.out.size
          have e4 := D4.out.size
          have e5 := D5.out.size
          have ne1 : s' ≠ h' := by omega
          have ne2 : s' ≠ b' := by omega
          have ne3 : h' ≠ b' := by omega
          have FZ : Hid (CN0 w W5 first puts cuts (.slice AF' first.length cF') s' h' (.slice AD' cuts.length cD') b') := ⟨B5.out, ZRF, ZMS.1, ZMS.2, ZMH.1, ZMH.2, ZMB.1, ZMB.2, ZRD, ne1, ne2, ne3⟩
          clear ZRF ZMS ZMH ZMB ZRD qGS gGS qGH gGH qGB gGB e1 e2 e3 e4 e5 RF MS MH RD MB GS GB GH D1 D2 D3 D4 D5 B0 B1 B2 B3 B4 HS
          refine anyN_oneL 21 (by kernel_rfl) ?_
          simp only [List.take_succ_cons, List.take_zero, List.drop_succ_cons, List.drop_zero]
          go_wp2_with fail
          refine And.intro (fun _ => HAC.out _ B5.out) ?_
          refine anyN_oneL 22 (by kernel_rfl) ?_
          simp only [List.take_succ_cons, List.take_zero, List.drop_succ_cons, List.drop_zero]
          go_wp2_with fail
          refine And.intro (fun _ => HAC.out _ (B5.out.trans (((Below.refl _ W5).alloc (Nat.le_refl _) _).mono B5.out.size))) ?_
          refine anyN_oneL 23 (by kernel_rfl) ?_
          simp only [List.take_succ_cons, List.take_zero, List.drop_succ_cons, List.drop_zero]
          go_wp2_with fail
          refine And.intro (fun _ => HAC.out _ (B5.out.trans (((Below.refl _ W5).alloc (Nat.le_refl _) _).mono B5.out.size))) ?_
          refine ⟨by kernel_rfl, ?_⟩
          exact fin FZ.out.boxed
        · simp only [List.take_succ_cons, List.take_zero, List.drop_succ_cons, List.drop_zero]
          go_wp2_with fail
          refine (mclone_c b (byOf cuts) W3 (HA.out.mB.kept (B3.out.block b HA.out.mB.lt))).mono ?_
          rintro e W4 ⟨rfl, hm, hb, hsz⟩
          have D4 := Lib.hid hb
          have MB := Lib.hid (And.intro B3.out.size hm)
          clear hm hb hsz
          obtain ⟨b', hgb⟩ : ∃ n, n = W3.heap.size := ⟨_, rfl⟩
          rw [← hgb] at MB ⊢
          have GB := Lib.hid hgb
          clear hgb
          have B4 := Lib.hid (B3.out.trans (D4.out.mono B3.out.size))
          go_wp2_with fail
          first | refine And.intro (fun _ => HAC.out _ B4.out) ?_ | refine And.intro (HAC.out _ B4.out) ?_
          refine anyN_oneL 10 (by kernel_rfl) ?_
          simp only [List.take_succ_cons, List.take_zero, List.drop_succ_cons, List.drop_zero]
          go_wp2_with fail
          have D5 := Lib.hid ((Below.refl _ W4).alloc (Nat.le_refl _) (.map #[] 0))
          have MH := Lib.hid (And.intro B4.out.size (MapIs.made W4))
          generalize hgw : W4.alloc (.map #[] 0) = W5 at *
          clear hgw
          obtain ⟨h', hgh⟩ : ∃ n, n = W4.heap.size := ⟨_, rfl⟩
          rw [← hgh] at MH ⊢
          have GH := Lib.hid hgh
          clear hgh
          have B5 := Lib.hid (B4.out.trans (D5.out.mono B4.out.size))
          first | refine And.intro (fun _ => HAC.out _ B5.out) ?_ | refine And.intro (HAC.out _ B5.out) ?_
          have ZRF := RF.out.keep (own' := newOwn w.heap.size) (Same.below (Below.comp (Below.comp (Below.comp D2.out D3.out) D4.out) D5.out))
          have ZMS := And.intro MS.out.1 (MS.out.2.kept (((Below.comp (Below.comp D3.out D4.out) D5.out)).block _ MS.out.2.lt))
          have ZRD := RD.out.keep (own' := newOwn w.heap.size) (Same.below (Below.comp D4.out D5.out))
          have ZMB := And.intro MB.out.1 (MB.out.2.kept ((D5.out).block _ MB.out.2.lt))
          have ZMH := MH.out
          have qGS : s' < W2.heap.size := MS.out.2.lt
          have gGS := GS.out
          have qGB : b' < W4.heap.size := MB.out.2.lt
          have gGB := GB.out
          have qGH : h' < W5.heap.size := MH.out.2.lt
          have gGH := GH.out
          have e1 := D1.out.size
          have e2 := D2.out.size
          have e3 := D3.out.size
          have e4 := D4.out.size
          have e5 := D5.out.size
          have ne1 : s' ≠ h' := by omega
          have ne2 : s' ≠ b' := by omega
          have ne3 : h' ≠ b' := by omega
          have FZ : Hid (CN0 w W5 first puts cuts (.slice AF' first.length cF') s' h' (.slice AD' cuts.length cD') b') := ⟨B5.out, ZRF, ZMS.1, ZMS.2, ZMH.1, ZMH.2, ZMB.1, ZMB.2, ZRD, ne1, ne2, ne3⟩
          clear ZRF ZMS ZMH ZMB ZRD qGS gGS qGB gGB qGH gGH e1 e2 e3 e4 e5 RF MS MH RD MB GS GB GH D1 D2 D3 D4 D5 B0 B1 B2 B3 B4 HS
          refine anyN_oneL 21 (by kernel_rfl) ?_
          simp only [List.take_succ_cons, List.take_zero, List.drop_succ_cons, List.drop_zero]
          go_wp2_with fail
          refine And.intro (fun _ => HAC.out _ B5.out) ?_
          refine anyN_oneL 22 (by kernel_rfl) ?_
          simp only [List.take_succ_cons, List.take_zero, List.drop_succ_cons, List.drop_zero]
          go_wp2_with fail
          refine And.intro (fun _ => HAC.out _ (B5.out.trans (((Below.refl _ W5).alloc (Nat.le_refl _) _).mono B5.out.size))) ?_
          refine anyN_oneL 23 (by kernel_rfl) ?_
          simp only [List.take_succ_cons, List.take_zero, List.drop_succ_cons, List.drop_zero]
          go_wp2_with fail
          refine And.intro (fun _ => HAC.out _ (B5.out.trans (((Below.refl _ W5).alloc (Nat.le_refl _) _).mono B5.out.size))) ?_
          refine ⟨by kernel_rfl, ?_⟩
          exact fin FZ.out.boxed
    · simp only [List.take_succ_cons, List.take_zero, List.drop_succ_cons, List.drop_zero]
      go_wp2_with fail
      have D2 := Lib.hid ((Below.refl _ W1).alloc (Nat.le_refl _) (.map #[] 0))
      have MH := Lib.hid (And.intro B1.out.size (MapIs.made W1))
      generalize hgw : W1.alloc (.map #[] 0) = W2 at *
      clear hgw
      obtain ⟨h', hgh⟩ : ∃ n, n = W1.heap.size := ⟨_, rfl⟩
      rw [← hgh] at MH ⊢
      have GH := Lib.hid hgh
      clear hgh
      have B2 := Lib.hid (B1.out.trans (D2.out.mono B1.out.size))
      first | refine And.intro (fun _ => HAC.out _ B2.out) ?_ | refine And.intro (HAC.out _ B2.out) ?_
      refine anyN_oneL 9 (by kernel_rfl) ?_
      simp only [List.take_succ_cons, List.take_zero, List.drop_succ_cons, List.drop_zero]
      go_wp2_with fail
      refine (mclone_c s (thereOf first puts) W2 (HA.out.mS.kept (B2.out.block s HA.out.mS.lt))).mono ?_
      rintro e W3 ⟨rfl, hm, hb, hsz⟩
      have D3 := Lib.hid hb
      have MS := Lib.hid (And.intro B2.out.size hm)
      have HS := Lib.hid hm.lt
      clear hm hb hsz
      obtain ⟨s', hgs⟩ : ∃ n, n = W2.heap.size := ⟨_, rfl⟩
      rw [← hgs] at MS ⊢
      have GS := Lib.hid hgs
      clear hgs
      have B3 := Lib.hid (B2.out.trans (D3.out.mono B2.out.size))
      go_wp2_with fail
      first | refine And.intro (fun _ => HAC.out _ B3.out) ?_ | refine And.intro (HAC.out _ B3.out) ?_
      refine anyN_oneL 15 (by kernel_rfl) ?_
      simp only [List.take_succ_cons, List.take_zero, List.drop_succ_cons, List.drop_zero]
      go_wp2_with fail
      refine (dclone_c (.slice AD cuts.length cD) cuts.length cuts W3 (fun _ => 0) own t 1 (HA.out.rD.keep (Same.below B3.out)) (by omega)).mono ?_
      rintro e W4 ⟨vD', own1, rfl, tr1, row1⟩
      obtain ⟨AD', cD', hv, _⟩ := row1.form
      subst hv
      have D4 := Lib.hid tr1.isNew
      have RD := Lib.hid (row1.isNew tr1 B3.out.size)
      clear tr1 row1
      have B4 := Lib.hid (B3.out.trans (D4.out.mono B3.out.size))
      go_wp2_with fail
      first | refine And.intro (fun _ => HAC.out _ B4.out) ?_ | refine And.intro (HAC.out _ B4.out) ?_
      refine anyN_oneL 20 (by kernel_rfl) ?_
      simp only [List.take_succ_cons, List.take_zero, List.drop_succ_cons, List.drop_zero]
      go_wp2_with fail
      refine (mclone_c b (byOf cuts) W4 (HA.out.mB.kept (B4.out.block b HA.out.mB.lt))).mono ?_
      rintro e W5 ⟨rfl, hm, hb, hsz⟩
      have D5 := Lib.hid hb
      have MB := Lib.hid (And.intro B4.out.size hm)
      clear hm hb hsz
      obtain ⟨b', hgb⟩ : ∃ n, n = W4.heap.size := ⟨_, rfl⟩
      rw [← hgb] at MB ⊢
      have GB := Lib.hid hgb
      clear hgb
      have B5 := Lib.hid (B4.out.trans (D5.out.mono B4.out.size))
      go_wp2_with fail
      first | refine And.intro (fun _ => HAC.out _ B5.out) ?_ | refine And.intro (HAC.out _ B5.out) ?_
      have ZRF := RF.out.keep (own' := newOwn w.heap.size) (Same.below (Below.comp (Below.comp (Below.comp D2.out D3.out) D4.out) D5.out))
      have ZMH := And.intro MH.out.1 (MH.out.2.kept (((Below.comp (Below.comp D3.out D4.out) D5.out)).block _ MH.out.2.lt))
      have ZMS := And.intro MS.out.1 (MS.out.2.kept (((Below.comp D4.out D5.out)).block _ MS.out.2.lt))
      have ZRD := RD.out.keep (own' := newOwn w.heap.size) (Same.below D5.out)
      have ZMB := MB.out
      have qGH : h' < W2.heap.size := MH.out.2.lt
      have gGH := GH.out
      have qGS : s' < W3.heap.size := MS.out.2.lt
      have gGS := GS.out
      have qGB : b' < W5.heap.size := MB.out.2.lt
      have gGB := GB.out
      have e1 := D1.out.size
      have e2 := D2.out.size
      have e3 := D3.out.size
      have e4 := D4.out.size
      have e5 := D5.out.size
      have ne1 : s' ≠ h' := by omega
      have ne2 : s' ≠ b' := by omega
      have ne3 : h' ≠ b' := by omega
      have FZ : Hid (CN0 w W5 first puts cuts (.slice AF' first.length cF') s' h' (.slice AD' cuts.length cD') b') := ⟨B5.out, ZRF, ZMS.1, ZMS.2, ZMH.1, ZMH.2, ZMB.1, ZMB.2, ZRD, ne1, ne2, ne3⟩
      clear ZRF ZMS ZMH ZMB ZRD qGH gGH qGS gGS qGB gGB e1 e2 e3 e4 e5 RF MS MH RD MB GS GB GH D1 D2 D3 D4 D5 B0 B1 B2 B3 B4 HS
      refine anyN_oneL 21 (by kernel_rfl) ?_
      simp only [List.take_succ_cons, List.take_zero, List.drop_succ_cons, List.drop_zero]
      go_wp2_with fail
      refine And.intro (fun _ => HAC.out _ B5.out) ?_
      refine anyN_oneL 22 (by kernel_rfl) ?_
      simp only [List.take_succ_cons, List.take_zero, List.drop_succ_cons, List.drop_zero]
      go_wp2_with fail
      refine And.intro (fun _ => HAC.out _ (B5.out.trans (((Below.refl _ W5).alloc (Nat.le_refl _) _).mono B5.out.size))) ?_
      refine anyN_oneL 23 (by kernel_rfl) ?_
      simp only [List.take_succ_cons, List.take_zero, List.drop_succ_cons, List.drop_zero]
      go_wp2_with fail
      refine And.intro (fun _ => HAC.out _ (B5.out.trans (((Below.refl _ W5).alloc (Nat.le_refl _) _).mono B5.out.size))) ?_
      refine ⟨by kernel_rfl, ?_⟩
      exact fin FZ.out.boxed
  · simp only [List.take_succ_cons, List.take_zero, List.drop_succ_cons, List.drop_zero]
    go_wp2_with fail
    have D1 := Lib.hid ((Below.refl _ W0).alloc (Nat.le_refl _) (.map #[] 0))
    have MH := Lib.hid (And.intro B0.out.size (MapIs.made W0))
    generalize hgw : W0.alloc (.map #[] 0) = W1 at *
    clear hgw
    obtain ⟨h', hgh⟩ : ∃ n, n = W0.heap.size := ⟨_, rfl⟩
    rw [← hgh] at MH ⊢
    have GH := Lib.hid hgh
    clear hgh
    have B1 := Lib.hid (B0.out.trans (D1.out.mono B0.out.size))
    first | refine And.intro (fun _ => HAC.out _ B1.out) ?_ | refine And.intro (HAC.out _ B1.out) ?_
    refine anyN_oneL 4 (by kernel_rfl) ?_
    simp only [List.take_succ_cons, List.take_zero, List.drop_succ_cons, List.drop_zero]
    go_wp2_with fail
    refine (clone_c AF first.length cF first W1 (fun _ => 0) 0 1 (HA.out.rF.keep (Same.below B1.out)).toIdsR.2.plain rfl (by omega)).mono ?_
    rintro e W2 ⟨vF', own1, rfl, tr1, row1⟩
    obtain ⟨AF', cF', hv, _⟩ := row1.form
    subst hv
    have D2 := Lib.hid tr1.isNew
    have RF := Lib.hid (row1.isNew tr1 B1.out.size)
    clear tr1 row1
    have B2 := Lib.hid (B1.out.trans (D2.out.mono B1.out.size))
    go_wp2_with fail
    first | refine And.intro (fun _ => HAC.out _ B2.out) ?_ | refine And.intro (HAC.out _ B2.out) ?_
    refine anyN_oneL 9 (by kernel_rfl) ?_
    simp only [List.take_succ_cons, List.take_zero, List.drop_succ_cons, List.drop_zero]
    go_wp2_with fail
    refine (mclone_c s (thereOf first puts) W2 (HA.out.mS.kept (B2.out.block s HA.out.mS.lt))).mono ?_
    rintro e W3 ⟨rfl, hm, hb, hsz⟩
    have D3 := Lib.hid hb
    have MS := Lib.hid (And.intro B2.out.size hm)
    have HS := Lib.hid hm.lt
    clear hm hb hsz
    obtain ⟨s', hgs⟩ : ∃ n, n = W2.heap.size := ⟨_, rfl⟩
    rw [← hgs] at MS ⊢
    have GS := Lib.hid hgs
    clear hgs
    have B3 := Lib.hid (B2.out.trans (D3.out.mono B2.out.size))
    go_wp2_with fail
    first | refine And.intro (fun _ => HAC.out _ B3.out) ?_ | refine And.intro (HAC.out _ B3.out) ?_
    refine anyN_oneL 15 (by kernel_rfl) ?_
    simp only [List.take_succ_cons, List.take_zero, List.drop_succ_cons, List.drop_zero]
    go_wp2_with fail
    refine (dclone_c (.slice AD cuts.length cD) cuts.length cuts W3 (fun _ => 0) own t 1 (HA.out.rD.keep (Same.below B3.out)) (by omega)).mono ?_
    rintro e W4 ⟨vD', own1, rfl, tr1, row1⟩
    obtain ⟨AD', cD', hv, _⟩ := row1.form
    subst hv
    have D4 := Lib.hid tr1.isNew
    have RD := Lib.hid (row1.isNew tr1 B3.out.size)
    clear tr1 row1
    have B4 := Lib.hid (B3.out.trans (D4.out.mono B3.out.size))
    go_wp2_with fail
    first | refine And.intro (fun _ => HAC.out _ B4.out) ?_ | refine And.intro (HAC.out _ B4.out) ?_
    refine anyN_oneL 20 (by kernel_rfl) ?_
    simp only [List.take_succ_cons, List.take_zero, List.drop_succ_cons, List.drop_zero]
    go_wp2_with fail
    refine (mclone_c b (byOf cuts) W4 (HA.out.mB.kept (B4.out.block b HA.out.mB.lt))).mono ?_
    rintro e W5 ⟨rfl, hm, hb, hsz⟩
    have D5 := Lib.hid hb
    have MB := Lib.hid (And.intro B4.out.size hm)
    clear hm hb hsz
    obtain ⟨b', hgb⟩ : ∃ n, n = W4.heap.size := ⟨_, rfl⟩
    rw [← hgb] at MB ⊢
    have GB := Lib.hid hgb
    clear hgb
    have B5 := Lib.hid (B4.out.trans (D5.out.mono B4.out.size))
    go_wp2_with fail
    first | refine And.intro (fun _ => HAC.out _ B5.out) ?_ | refine And.intro (HAC.out _ B5.out) ?_
    have ZMH := And.intro MH.out.1 (MH.out.2.kept (((Below.comp (Below.comp (Below.comp D2.out D3.out) D4.out) D5.out)).block _ MH.out.2.lt))
    have ZRF := RF.out.keep (own' := newOwn w.heap.size) (Same.below (Below.comp (Below.comp D3.out D4.out) D5.out))
    have ZMS := And.intro MS.out.1 (MS.out.2.kept (((Below.comp D4.out D5.out)).block _ MS.out.2.lt))
    have ZRD := RD.out.keep (own' := newOwn w.heap.size) (Same.below D5.out)
    have ZMB := MB.out
    have qGH : h' < W1.heap.size := MH.out.2.lt
    have gGH := GH.out
    have qGS : s' < W3.heap.size := MS.out.2.lt
    have gGS := GS.out
    have qGB : b' < W5.heap.size := MB.out.2.lt
    have gGB := GB.out
    have e1 := D1.out.size
    have e2 := D2.out.size
    have e3 := D3.out.size
    have e4 := D4.out.size
    have e5 := D5.out.size
    have ne1 : s' ≠ h' := by omega
    have ne2 : s' ≠ b' := by omega
    have ne3 : h' ≠ b' := by omega
    have FZ : Hid (CN0 w W5 first puts cuts (.slice AF' first.length cF') s' h' (.slice AD' cuts.length cD') b') := ⟨B5.out, ZRF, ZMS.1, ZMS.2, ZMH.1, ZMH.2, ZMB.1, ZMB.2, ZRD, ne1, ne2, ne3⟩
    clear ZRF ZMS ZMH ZMB ZRD qGH gGH qGS gGS qGB gGB e1 e2 e3 e4 e5 RF MS MH RD MB GS GB GH D1 D2 D3 D4 D5 B0 B1 B2 B3 B4 HS
    refine anyN_oneL 21 (by kernel_rfl) ?_
    simp only [List.take_succ_cons, List.take_zero, List.drop_succ_cons, List.drop_zero]
    go_wp2_with fail
    refine And.intro (fun _ => HAC.out _ B5.out) ?_
    refine anyN_oneL 22 (by kernel_rfl) ?_
    simp only [List.take_succ_cons, List.take_zero, List.drop_succ_cons, List.drop_zero]
    go_wp2_with fail
    refine And.intro (fun _ => HAC.out _ (B5.out.trans (((Below.refl _ W5).alloc (Nat.le_refl _) _).mono B5.out.size))) ?_
    refine anyN_oneL 23 (by kernel_rfl) ?_
    simp only [List.take_succ_cons, List.take_zero, List.drop_succ_cons, List.drop_zero]
    go_wp2_with fail
    refine And.intro (fun _ => HAC.out _ (B5.out.trans (((Below.refl _ W5).alloc (Nat.le_refl _) _).mono B5.out.size))) ?_
    refine ⟨by kernel_rfl, ?_⟩
    exact fin FZ.out.boxed
end Go.Proofs.Ytgmlhpkhecbkoaa
namespace Go.Proofs.Ytgmlhpkhecbkoaa
open Go.RowKit

@[go_sem ↓] theorem Try.eqlfunc33 (w : World) (f : Nat) (lb : Array Value) : (binOp .eql 33 (.func (.func f) #[] lb) .nilFunc).run Try.prog w = .ok (.bool false) w := by kernel_rfl
/-- The function fn, with the box G captured, tells whether an id is one of gl, wherever nothing old has turned. -/
def GoneC (fn G : Nat) (gl : List Id) (w : World) : Prop := ∀ W, Below w.heap.size w W → ∀ x1 x2, Calls Try.prog fn #[.agg #[.int .i64 x1, .int .i64 x2], .pointer (some ⟨G, 0, none⟩)] W fun e W' => e = .returned (.bool (decide ((x1, x2) ∈ gl))) ∧ Below W.heap.size W W'
def insB (puts : List (Id × Id)) (z : Id) : Bool := decide (z ∈ puts.map Prod.snd)
def liveB (puts cuts : List (Id × Id)) (gl : List Id) (z : Id) : Bool := !(insB puts z && decide (z ∈ gl)) && decide (∀ c ∈ cuts, c.1 = z → c.2 ∈ gl)
/-- The ids that are dead behind the first k of the order, and the first j deletions. -/
def dead1 (OL : List Id) (puts : List (Id × Id)) (gl : List Id) (k : Nat) (z : Id) : Bool := decide (z ∈ OL.take k) && (insB puts z && decide (z ∈ gl))
def dead2 (OL : List Id) (puts cuts : List (Id × Id)) (gl : List Id) (j : Nat) (z : Id) : Bool := dead1 OL puts gl OL.length z || decide (∃ c ∈ cuts.take j, c.1 = z ∧ c.2 ∉ gl)
def DeadIs (W : World) (dm : Nat) (D : Id → Bool) : Prop := ∃ dl, MapIs W dm dl ∧ ∀ z, getKV z dl = if D z then some (.bool true) else none
theorem DeadIs.next {W W' : World} {dm : Nat} {D : Id → Bool} (h : DeadIs W dm D) (k : W'.heap[dm]? = W.heap[dm]?) : DeadIs W' dm D := by
  obtain ⟨dl, h1, h2⟩ := h
  exact ⟨dl, h1.kept k, h2⟩
theorem getKV_ins {first : List Id} {puts : List (Id × Id)} (hw : Wf first puts) {z : Id} (hz : has first puts z = true) : getKV z (thereOf first puts) = some (.bool (insB puts z)) := by
  unfold thereOf
  rw [getKV_append]
  have key : ∀ (l : List Id) (b : Bool), z ∈ l → getKV z (l.map (fun z => (z, Value.bool b))) = some (.bool b) := fun l b => by
    induction l with
    | nil => simp
    | cons x l ih =>
      intro hm
      simp only [List.map_cons, getKV]
      by_cases hx : x = z
      · rw [if_pos hx]
      · rw [if_neg hx]
        exact ih ((List.mem_cons.1 hm).resolve_left (fun e => hx e.symm))
  have key0 : ∀ (l : List Id) (b : Bool), z ∉ l → getKV z (l.map (fun z => (z, Value.bool b))) = none := fun l b hn => by
    have := getKV_map_some z l (fun z => (z, Value.bool b))
    simp only [List.map_id'] at this
    rw [decide_eq_false hn] at this
    simpa using this
  have e2 : puts.map (fun p => (p.2, Value.bool true)) = (puts.map Prod.snd).map (fun z => (z, Value.bool true)) := by simp
  rw [e2]
  by_cases hp : z ∈ puts.map Prod.snd
  · have hf : z ∉ first := fun e => hw.dis z hp e
    rw [key0 _ _ hf, key _ _ hp]
    simp [insB, hp]
  · have hf : z ∈ first := by
      rcases has_iff.1 hz with h | h
      · exact h
      · exact absurd h hp
    rw [key _ _ hf]
    unfold insB
    rw [decide_eq_false hp]
    rfl
/-- An axis is handed back; nothing old has turned. -/
def AxP (w : World) (ids : List Id) (live : List Bool) (e : Ending) (w' : World) : Prop :=
  ∃ q own', e = .returned (.pointer (some ⟨q, 0, none⟩)) ∧ Below w.heap.size w w' ∧ AxisAt w' own' 4 q ids live

theorem DeadIs.put {W1 : World} {dm : Nat} {D E : Id → Bool} {z : Id} {dl : List (Id × Value)} (h : ∀ z, getKV z dl = if D z then some (.bool true) else none) (hm : MapIs W1 dm (putKV z (.bool true) dl)) (hE : ∀ x, E x = (D x || decide (x = z))) : DeadIs W1 dm E := by
  refine ⟨_, hm, fun x => ?_⟩
  rw [getKV_put, hE x]
  by_cases hx : x = z
  · rw [if_pos hx, decide_eq_true hx]; simp
  · rw [if_neg hx, decide_eq_false hx, h x]; simp
theorem dead1_put {OL : List Id} {puts : List (Id × Id)} {gl : List Id} {k : Nat} {y : Id} (hk : OL[k]? = some y) (h : (insB puts y && decide (y ∈ gl)) = true) (x : Id) : dead1 OL puts gl (k + 1) x = (dead1 OL puts gl k x || decide (x = y)) := by
  obtain ⟨hl, he⟩ := List.getElem?_eq_some_iff.1 hk
  unfold dead1
  rw [List.take_succ_eq_append_getElem hl, he]
  by_cases hx : x = y
  · subst hx; rw [h]; simp
  · simp [hx]
theorem dead1_stay {OL : List Id} {puts : List (Id × Id)} {gl : List Id} {k : Nat} {y : Id} (hk : OL[k]? = some y) (h : (insB puts y && decide (y ∈ gl)) = false) : dead1 OL puts gl (k + 1) = dead1 OL puts gl k := by
  obtain ⟨hl, he⟩ := List.getElem?_eq_some_iff.1 hk
  funext x
  unfold dead1
  rw [List.take_succ_eq_append_getElem hl, he]
  by_cases hx : x = y
  · subst hx; rw [h]; simp
  · simp [hx]
theorem dead2_put {OL : List Id} {puts cuts : List (Id × Id)} {gl : List Id} {j : Nat} {g d : Id} (hj : cuts[j]? = some (g, d)) (h : d ∉ gl) (x : Id) : dead2 OL puts cuts gl (j + 1) x = (dead2 OL puts cuts gl j x || decide (x = g)) := by
  obtain ⟨hl, he⟩ := List.getElem?_eq_some_iff.1 hj
  unfold dead2
  rw [List.take_succ_eq_append_getElem hl, he, Bool.or_assoc]
  congr 1
  rw [Bool.eq_iff_iff]
  simp only [List.mem_append, List.mem_singleton, decide_eq_true_eq, Bool.or_eq_true]
  constructor
  · rintro ⟨c, hc | rfl, h1, h2⟩
    · exact .inl ⟨c, hc, h1, h2⟩
    · exact .inr h1.symm
  · rintro (⟨c, hc, h1, h2⟩ | rfl)
    · exact ⟨c, .inl hc, h1, h2⟩
    · exact ⟨(x, d), .inr rfl, rfl, h⟩
theorem dead2_stay {OL : List Id} {puts cuts : List (Id × Id)} {gl : List Id} {j : Nat} {g d : Id} (hj : cuts[j]? = some (g, d)) (h : d ∈ gl ∨ dead2 OL puts cuts gl j g = true) : dead2 OL puts cuts gl (j + 1) = dead2 OL puts cuts gl j := by
  funext x
  by_cases hd : d ∈ gl
  · obtain ⟨hl, he⟩ := List.getElem?_eq_some_iff.1 hj
    unfold dead2
    rw [List.take_succ_eq_append_getElem hl, he]
    congr 1
    rw [Bool.eq_iff_iff]
    simp only [List.mem_append, List.mem_singleton, decide_eq_true_eq]
    constructor
    · rintro ⟨c, hc | rfl, h1, h2⟩
      · exact ⟨c, hc, h1, h2⟩
      · exact absurd hd h2
    · rintro ⟨c, hc, h1, h2⟩
      exact ⟨c, .inl hc, h1, h2⟩
  · rw [dead2_put hj hd]
    by_cases hx : x = g
    · subst hx; rw [h.resolve_left hd]; rfl
    · rw [decide_eq_false hx, Bool.or_false]
theorem dead2_end {OL : List Id} {puts cuts : List (Id × Id)} {gl : List Id} {z : Id} (hz : z ∈ OL) : dead2 OL puts cuts gl cuts.length z = !liveB puts cuts gl z := by
  unfold dead2 dead1 liveB
  rw [List.take_length, List.take_length, decide_eq_true hz, Bool.true_and]
  cases (insB puts z && decide (z ∈ gl))
  · simp only [Bool.false_or, Bool.not_false, Bool.true_and]
    rw [Bool.eq_iff_iff]
    simp only [decide_eq_true_eq, Bool.not_eq_true', decide_eq_false_iff_not]
    constructor
    · rintro ⟨c, h1, h2, h3⟩ hall
      exact h3 (hall c h1 h2)
    · intro hn
      by_cases he : ∃ c ∈ cuts, c.1 = z ∧ c.2 ∉ gl
      · exact he
      · exact absurd (fun c h1 h2 => Classical.byContradiction fun h3 => he ⟨c, h1, h2, h3⟩) hn
  · rfl
/-- What is live behind the first k. -/
def liveAt (OL : List Id) (f : Id → Bool) (k : Nat) : List Bool := OL.mapIdx fun i z => if i < k then f z else true
theorem liveAt_zero (OL : List Id) (f : Id → Bool) : liveAt OL f 0 = List.replicate OL.length true := by
  unfold liveAt
  apply List.ext_getElem?
  intro i
  simp only [List.getElem?_mapIdx, List.getElem?_replicate, Nat.not_lt_zero, if_false]
  by_cases h : i < OL.length
  · simp [h]
  · simp [h]
theorem liveAt_end (OL : List Id) (f : Id → Bool) : liveAt OL f OL.length = OL.map f := by
  unfold liveAt
  apply List.ext_getElem?
  intro i
  simp only [List.getElem?_mapIdx, List.getElem?_map]
  by_cases h : i < OL.length
  · simp [h]
  · simp [h]
theorem liveAt_live {OL : List Id} {f : Id → Bool} {k : Nat} {y : Id} (hk : OL[k]? = some y) (h : f y = true) : liveAt OL f (k + 1) = liveAt OL f k := by
  unfold liveAt
  apply List.ext_getElem?
  intro i
  simp only [List.getElem?_mapIdx]
  by_cases hi : i = k
  · subst hi; rw [hk]; simp [h]
  · cases OL[i]? with
    | none => rfl
    | some z =>
      simp only [Option.map_some]
      by_cases h1 : i < k
      · rw [if_pos h1, if_pos (by omega)]
      · rw [if_neg h1, if_neg (by omega)]
theorem liveAt_dead {OL : List Id} {f : Id → Bool} {k : Nat} {y : Id} (hn : OL.Nodup) (hk : OL[k]? = some y) (h : f y = false) : turnL OL (liveAt OL f k) y false = liveAt OL f (k + 1) := by
  obtain ⟨hl, he⟩ := List.getElem?_eq_some_iff.1 hk
  have hm : y ∈ OL := by rw [← he]; exact List.getElem_mem hl
  have hi : OL.idxOf y = k := by rw [← he]; exact hn.idxOf_getElem k hl
  unfold turnL
  rw [if_pos hm, hi]
  unfold liveAt
  apply List.ext_getElem?
  intro i
  simp only [List.getElem?_mapIdx, List.getElem?_set, List.length_mapIdx]
  by_cases hik : k = i
  · subst hik; rw [hk]; simp [hl, h]
  · rw [if_neg hik]
    cases OL[i]? with
    | none => rfl
    | some z =>
      simp only [Option.map_some]
      by_cases h1 : i < k
      · rw [if_pos h1, if_pos (by omega)]
      · rw [if_neg h1, if_neg (by omega)]
/-- The tags 1 and 2, and no others. -/
def tags12 (own : Tags) (w : World) : Tags := fun k => if k < w.heap.size then (if own k = 1 then 1 else if own k = 2 then 2 else 0) else 0
theorem tags12_fresh (own : Tags) (w : World) : Fresh (tags12 own w) w := fun k hk => by
  unfold tags12 at hk
  split at hk
  · assumption
  · exact absurd rfl hk
theorem tags12_ne (own : Tags) (w : World) (k : Nat) : tags12 own w k ≠ 4 := by
  unfold tags12
  split
  · split
    · decide
    · split <;> decide
  · decide
theorem tags12_same1 (own : Tags) (w : World) : Same 1 own w (tags12 own w) w := fun k hk ho => ⟨rfl, by unfold tags12; rw [if_pos hk, if_pos ho]⟩
theorem tags12_same2 (own : Tags) (w : World) : Same 2 own w (tags12 own w) w := fun k hk ho => ⟨rfl, by unfold tags12; rw [if_pos hk, if_neg (by omega), if_pos ho]⟩
theorem newL_self {l : List Id} (hn : ((0, 0) :: l).Nodup) (hl : l.length ≤ 1000) : newL l = l := by
  have key : ∀ (r a : List Id), ((0, 0) :: (a ++ r)).Nodup → (a ++ r).length ≤ 1000 → r.foldl newStep a = a ++ r := by
    intro r
    induction r with
    | nil => intro a _ _; simp
    | cons x r ih =>
      intro a hn hl
      have h1 : newStep a x = a ++ [x] := by
        unfold newStep
        simp only [List.length_append, List.length_cons] at hl
        rw [if_neg (by omega), if_neg]
        rintro (h | h)
        · rw [h] at hn; simp at hn
        · rw [List.nodup_cons, List.nodup_append] at hn
          exact hn.2.2.2 x h x (by simp) rfl
      rw [List.foldl_cons, h1, ih (a ++ [x]) (by simpa using hn) (by simpa using hl)]
      simp
  have := key l [] (by simpa using hn) (by simpa using hl)
  simpa [newL] using this
theorem newIn_fresh (N : Nat) (w : World) : Fresh (newIn N w.heap.size) w := fun k hk => by
  unfold newIn at hk
  split at hk
  · rename_i h; exact h.2
  · exact absurd rfl hk

set_option maxRecDepth 100000 in
set_option maxHeartbeats 4000000 in
theorem axis52_c (w : World) (own : Tags) (t p : Nat) (first : List Id) (puts cuts : List (Id × Id)) (h : ShAt w own t p first puts cuts) (hcl : cuts.length ≤ 1000) (fn G : Nat) (gl : List Id) (hE : ∀ args W, (callFunc fn args).run Try.prog W = .ok (.enter fn args) W) (hG : GoneC fn G gl w) :
    Calls Try.prog 52 #[.pointer (some ⟨p, 0, none⟩), .func (.func fn) #[] #[.pointer (some ⟨G, 0, none⟩)]] w (AxP w (orderL first puts) ((orderL first puts).map (liveB puts cuts gl))) := by
  have HG := Lib.hid hG
  have hwf := h.wf
  have HS := Lib.hid (sclone_c w own t p first puts cuts h hcl)
  obtain ⟨hof1, hof2, hof3⟩ := order_facts hwf
  have hle : (orderL first puts).length ≤ 1000 := by have := hwf.len; omega
  have HW := Lib.hid hwf
  have HO := Lib.hid (And.intro hof1 hof2)
  clear h hG hwf hof1 hof2 hof3
  go_enter Try.func52, Try.ntmps52
  go_wp2_with fail
  refine HS.out.mono ?_
  rintro e w1 ⟨q, rfl, hq, hb1, hs1⟩
  have HC := Lib.hid (order_c w1 (newIn w.heap.size w1.heap.size) 1 2 q first puts cuts hs1 (newIn_fresh _ _) (by decide))
  have B1 := Lib.hid hb1
  have S1 := Lib.hid hs1
  clear hq hb1 hs1 HS
  go_wp2_with fail
  refine HC.out.mono ?_
  rintro e w2 ⟨v, own2, rfl, tr2, row2⟩
  obtain ⟨OL, hOL⟩ : ∃ OL, orderL first puts = OL := ⟨_, rfl⟩
  rw [hOL] at row2 hle HO ⊢
  obtain ⟨AO, cO, hv, _⟩ := row2.form
  subst hv
  clear HC
  have b12 : Below w1.heap.size w1 w2 := tr2.toBelow (fun k _ => by unfold newIn; split <;> decide)
  have B2 : Hid (Below w.heap.size w w2) := B1.out.trans (b12.mono B1.out.size)
  have S2 := Lib.hid ((S1.out.other tr2 (by decide)).keep (tags12_same1 own2 w2))
  have R2 := Lib.hid (row2.keep (tags12_same2 own2 w2))
  have N2 := Lib.hid (tags12_ne own2 w2)
  have F2 := Lib.hid (tags12_fresh own2 w2)
  have HOL := Lib.hid hOL
  clear b12 row2 tr2 S1 B1 hOL
  generalize tags12 own2 w2 = own3 at *
  go_wp2_with fail
  go_loopw [27] (fun i wr => ∃ k : Nat, k ≤ OL.length ∧ i = .int .i64 k ∧ Below w2.heap.size w2 wr ∧ Hid (DeadIs wr w2.heap.size (dead1 OL puts gl k))) (fun i _ => OL.length - (intOf i).toNat)
  case atStart => exact ⟨0, Nat.zero_le _, rfl, (Below.refl _ _).alloc (Nat.le_refl _) _, ⟨[], MapIs.made w2, fun z => by simp [getKV, dead1]⟩⟩
  case round =>
    obtain ⟨k, hk, rfl, hB, hD⟩ := hrel
    by_cases hlt : k < OL.length
    · have hrow := R2.out.keep (Same.below (own := own3) hB)
      obtain ⟨bK, oK, hA, _, hbK, hc⟩ := hrow.toIdsR.2 (fun e => by rw [e] at hlt; simp at hlt)
      subst hA
      obtain ⟨g1, g2⟩ := hc k hlt
      have hyk := Lib.hid (List.getElem?_eq_getElem hlt)
      have hyh : has first puts OL[k] = true := (HO.out.2 _).1 (List.getElem_mem hlt)
      clear hc hrow
      generalize OL[k] = y at *
      obtain ⟨y1, y2⟩ := y
      dsimp only at g1 g2
      have hk0 : (0 : Int) ≤ (k : Int) := by omega
      have hkn : (k : Int) < (OL.length : Int) := by omega
      have bl2 : Below wr.heap.size wr (wr.alloc (.cells #[.int .i64 y1, .int .i64 y2] 24)).drew := ((Below.refl _ _).alloc (Nat.le_refl _) _).drew
      have hsz : w2.heap.size < wr.heap.size := by
        obtain ⟨dl, hm, _⟩ := hD.out
        exact hm.lt
      have B3 := Lib.hid (hB.trans (bl2.mono hB.size))
      have D3 := Lib.hid (hD.out.next (bl2.block _ hsz))
      have X3 : Hid (Blk (wr.alloc (.cells #[.int .i64 y1, .int .i64 y2] 24)).drew wr.heap.size 24 #[.int .i64 y1, .int .i64 y2]) := Blk.new wr 24 _
      obtain ⟨_, _, vF, s, hh, vD, b, hl, a⟩ := S2.out.next B3.out
      have HAC : Hid (∀ W', Below (wr.alloc (.cells #[.int .i64 y1, .int .i64 y2] 24)).drew.heap.size (wr.alloc (.cells #[.int .i64 y1, .int .i64 y2] 24)).drew W' → AllCells W' [(⟨q, 1, none⟩, .map (some s)), (⟨wr.heap.size, 0, none⟩, .int .i64 y1), (⟨wr.heap.size, 1, none⟩, .int .i64 y2)]) := fun W' hW' => by
        have hb := a.blk.kept (hW'.block q a.blk.lt)
        have hx := X3.out.kept (hW'.block _ X3.out.lt)
        exact ⟨hb.cell 1, hx.cell 0, hx.cell 1, trivial⟩
      have hlk := MapIs.look a.mS Try.underlying95 (zero4 _) (y1, y2) false
      rw [getKV_ins HW.out hyh] at hlk
      simp only [idv, Option.getD_some, Bool.false_eq_true, if_false] at hlk
      have HX := Lib.hid (show wr.heap.size < (wr.alloc (.cells #[.int .i64 y1, .int .i64 y2] 24)).drew.heap.size from X3.out.lt)
      clear a hD bl2 hyh hB
      obtain ⟨ib, hib⟩ : ∃ ib, insB puts (y1, y2) = ib := ⟨_, rfl⟩
      rw [hib] at hlk
      have HIB := Lib.hid hib
      clear hib
      go_wp2_with fail
      have HC0 := HAC.out _ (Below.refl _ _)
      refine region_free _ [0, 1, 2, 3, 4] 6 (by kernel_rfl) (by kernel_rfl) (by kernel_rfl) (by kernel_rfl) (by kernel_rfl) (fun _ _ _ _ _ h => h) HC0 ?_
      intro hne hu
      simp only [AllCells] at hu
      simp only [pick, List.take_succ_cons, List.take_zero, List.drop_succ_cons, List.drop_zero, List.cons_append, List.nil_append]
      repeat (go_big_quiet_step (fail))
      refine wpQuiet_nil ?_
      clear hne hu HC0
      generalize (wr.alloc (.cells #[.int .i64 y1, .int .i64 y2] 24)).drew = W3 at *
      generalize hXB : wr.heap.size = XB at *
      clear hXB
      refine anyN_oneL 5 (by kernel_rfl) ?_
      simp only [List.take_succ_cons, List.take_zero, List.drop_succ_cons, List.drop_zero]
      go_wp2_with fail
      refine And.intro (fun _ => HAC.out _ (Below.refl _ _)) ?_
      refine anyN_oneL 6 (by kernel_rfl) ?_
      simp only [List.take_succ_cons, List.take_zero, List.drop_succ_cons, List.drop_zero]
      go_wp2_with fail
      refine And.intro (fun _ => HAC.out _ (Below.refl _ _)) ?_
      refine anyN_more [7, 8] 2 (by kernel_rfl) (by kernel_rfl) (by kernel_rfl) (by kernel_rfl) (fun _ _ _ _ _ h => h) (HAC.out _ (Below.refl _ _)) ?_
      intro hne hu
      simp only [AllCells] at hu
      simp only [pick, List.take_succ_cons, List.take_zero, List.drop_succ_cons, List.drop_zero, List.cons_append, List.nil_append]
      cases ib
      · repeat (go_big_quiet_step (fail))
        refine wpQuiet_nil ?_
        clear hne hu
        refine anyN_oneL 9 (by kernel_rfl) ?_
        simp only [List.take_succ_cons, List.take_zero, List.drop_succ_cons, List.drop_zero]
        go_wp2_with fail
        refine And.intro (fun _ => HAC.out _ (Below.refl _ _)) ?_
        refine anyN_oneL 10 (by kernel_rfl) ?_
        simp only [List.take_succ_cons, List.take_zero, List.drop_succ_cons, List.drop_zero]
        go_wp2_with fail
        refine And.intro (fun _ => HAC.out _ (Below.refl _ _)) ?_
        refine ⟨by kernel_rfl, ?_⟩
        clear hlk
        go_wp2_with fail
        go_roundw
        case rel => exact ⟨k + 1, by omega, by go_num, B3.out, by rw [dead1_stay hyk.out (by rw [HIB.out]; rfl)]; exact D3.out⟩
        case measure => simp [intOf]; omega
      · repeat (go_big_quiet_step (fail))
        refine wpQuiet_nil ?_
        clear hne hu
        refine anyN_oneL 9 (by kernel_rfl) ?_
        simp only [List.take_succ_cons, List.take_zero, List.drop_succ_cons, List.drop_zero]
        go_wp2_with fail
        refine (HG.out W3 (B2.out.trans (B3.out.mono B2.out.size)) y1 y2).mono ?_
        rintro e W4 ⟨rfl, hb4⟩
        have hsz4 := Lib.hid (show w2.heap.size < W3.heap.size by obtain ⟨dl, hm, _⟩ := D3.out; exact hm.lt)
        have B4 := Lib.hid (B3.out.trans (hb4.mono B3.out.size))
        have D4 := Lib.hid (D3.out.next (hb4.block _ hsz4.out))
        have C4 := Lib.hid (HAC.out _ hb4)
        have X4 := Lib.hid (X3.out.kept (hb4.block _ X3.out.lt))
        clear hb4 hlk D3 B3 X3
        go_wp2_with fail
        refine And.intro (fun _ => C4.out) ?_
        refine anyN_oneL 10 (by kernel_rfl) ?_
        simp only [List.take_succ_cons, List.take_zero, List.drop_succ_cons, List.drop_zero]
        by_cases hgl : (y1, y2) ∈ gl
        · rw [decide_eq_true hgl]
          go_wp2_with fail
          refine And.intro (fun _ => C4.out) ?_
          refine ⟨by kernel_rfl, ?_⟩
          obtain ⟨dl, hdm, hdl⟩ := D4.out
          have HDM := Lib.hid hdm
          have HDL := Lib.hid hdl
          have e0 := X4.out.cell 0
          have e1 := X4.out.cell 1
          have hxl := X4.out.lt
          have HGL := Lib.hid hgl
          simp only [List.getElem?_toArray, List.getElem?_cons_zero, List.getElem?_cons_succ] at e0 e1
          clear hdm hdl hgl C4
          go_wp2_with (at_mapUpdate; refine wpList_mapUpdate_id _ rfl _ _ _ 95 rfl 4 Try.underlying95 w2.heap.size dl rfl HDM.out y1 y2 (.bool true) rfl rfl ?_; intro w5 hm5 hg5; go_frame)
          go_roundw
          case rel => exact ⟨k + 1, by omega, by go_num, B4.out.grown hg5 B4.out.size (fun j e => by cases e; exact Nat.le_refl _), DeadIs.put HDL.out hm5 (dead1_put hyk.out (by rw [HIB.out, decide_eq_true HGL.out]; rfl))⟩
          case measure => simp [intOf]; omega
        · rw [decide_eq_false hgl]
          go_wp2_with fail
          refine And.intro (fun _ => C4.out) ?_
          refine ⟨by kernel_rfl, ?_⟩
          have HGL := Lib.hid hgl
          clear hgl C4
          go_wp2_with fail
          go_roundw
          case rel => exact ⟨k + 1, by omega, by go_num, B4.out, by rw [dead1_stay hyk.out (by rw [HIB.out, decide_eq_false HGL.out]; rfl)]; exact D4.out⟩
          case measure => simp [intOf]; omega
    · have hkk : k = OL.length := by omega
      subst hkk
      have hkn : ¬ ((OL.length : Int) < (OL.length : Int)) := by omega
      have BW := Lib.hid hB
      have DW := Lib.hid hD.out
      clear hB hD
      obtain ⟨_, _, vF, s, hh, vD, b, hl, a⟩ := S2.out
      have hbq := a.blk.kept (BW.out.block q a.blk.lt)
      have c3 := hbq.cell 3
      have hql := hbq.lt
      obtain ⟨AD, cD, rfl, _⟩ := a.rD.form
      have RD := Lib.hid a.rD
      simp only [List.getElem?_toArray, List.getElem?_cons_zero, List.getElem?_cons_succ] at c3
      clear a hbq hk hlt
      go_wp2_with fail
      clear c3 hql
      have D0 : Hid (DeadIs wr w2.heap.size (dead2 OL puts cuts gl 0)) := by
        have e : dead2 OL puts cuts gl 0 = dead1 OL puts gl OL.length := by funext z; simp [dead2]
        rw [e]; exact DW.out
      go_loopw [50] (fun i wr => ∃ j : Nat, j ≤ cuts.length ∧ i = .int .i64 j ∧ Below w2.heap.size w2 wr ∧ Hid (DeadIs wr w2.heap.size (dead2 OL puts cuts gl j))) (fun i _ => cuts.length - (intOf i).toNat)
      case atStart => exact ⟨0, Nat.zero_le _, rfl, BW.out, D0.out⟩
      case round =>
        clear BW DW D0
        obtain ⟨k, hk, rfl, hB, hD⟩ := hrel
        by_cases hlt : k < cuts.length
        · have hrow := RD.out.keep (Same.below (own := own3) hB)
          obtain ⟨bK, oK, hA, _, hbK, hc⟩ := hrow.toPuts.2.puts (fun e => by rw [e] at hlt; simp at hlt)
          subst hA
          obtain ⟨g1, g2, g3, g4⟩ := hc k hlt
          have hyk := Lib.hid (List.getElem?_eq_getElem hlt)
          clear hc hrow
          generalize cuts[k] = y at *
          obtain ⟨⟨y1, y2⟩, z1, z2⟩ := y
          dsimp only at g1 g2 g3 g4
          have hk0 : (0 : Int) ≤ (k : Int) := by omega
          have hkn : (k : Int) < (cuts.length : Int) := by omega
          have bl2 : Below wr.heap.size wr (wr.alloc (.cells #[.int .i64 y1, .int .i64 y2, .int .i64 z1, .int .i64 z2] 113)) := (Below.refl _ _).alloc (Nat.le_refl _) _
          have hsz : w2.heap.size < wr.heap.size := by
            obtain ⟨dl, hm, _⟩ := hD.out
            exact hm.lt
          have B3 := Lib.hid (hB.trans (bl2.mono hB.size))
          have X3 : Hid (Blk (wr.alloc (.cells #[.int .i64 y1, .int .i64 y2, .int .i64 z1, .int .i64 z2] 113)) wr.heap.size 113 #[.int .i64 y1, .int .i64 y2, .int .i64 z1, .int .i64 z2]) := Blk.new wr 113 _
          obtain ⟨dl, hdm, hdl⟩ := hD.out.next (bl2.block _ hsz)
          have hlk := MapIs.look hdm Try.underlying95 (zero4 _) (y1, y2) false
          rw [hdl] at hlk
          simp only [idv, Bool.false_eq_true, if_false] at hlk
          have D3 : Hid (DeadIs (wr.alloc (.cells #[.int .i64 y1, .int .i64 y2, .int .i64 z1, .int .i64 z2] 113)) w2.heap.size (dead2 OL puts cuts gl k)) := ⟨dl, hdm, hdl⟩
          clear hD bl2 hB hdm hdl
          cases hdd : dead2 OL puts cuts gl k (y1, y2)
          · rw [hdd] at hlk
            simp only [Bool.false_eq_true, if_false, Option.getD_none] at hlk
            go_wp2_with fail
            refine (HG.out _ (B2.out.trans (B3.out.mono B2.out.size)) z1 z2).mono ?_
            rintro e W4 ⟨rfl, hb4⟩
            have hsz4 := Lib.hid (show w2.heap.size < (wr.alloc (.cells #[.int .i64 y1, .int .i64 y2, .int .i64 z1, .int .i64 z2] 113)).heap.size by obtain ⟨dl, hm, _⟩ := D3.out; exact hm.lt)
            have B4 := Lib.hid (B3.out.trans (hb4.mono B3.out.size))
            have D4 := Lib.hid (D3.out.next (hb4.block _ hsz4.out))
            have X4 := Lib.hid (X3.out.kept (hb4.block _ X3.out.lt))
            have HDD := Lib.hid hdd
            clear hb4 hlk D3 B3 X3 hdd
            by_cases hgl : (z1, z2) ∈ gl
            · rw [decide_eq_true hgl]
              have HGL := Lib.hid hgl
              clear hgl
              go_wp2_with fail
              go_roundw
              case rel => exact ⟨k + 1, by omega, by go_num, B4.out, by rw [dead2_stay hyk.out (.inl HGL.out)]; exact D4.out⟩
              case measure => simp [intOf]; omega
            · rw [decide_eq_false hgl]
              have HGL := Lib.hid hgl
              obtain ⟨dl', hdm, hdl⟩ := D4.out
              have HDM := Lib.hid hdm
              have HDL := Lib.hid hdl
              have e0 := X4.out.cell 0
              have e1 := X4.out.cell 1
              have hxl := X4.out.lt
              simp only [List.getElem?_toArray, List.getElem?_cons_zero, List.getElem?_cons_succ] at e0 e1
              clear hdm hdl hgl
              go_wp2_with (at_mapUpdate; refine wpList_mapUpdate_id _ rfl _ _ _ 95 rfl 4 Try.underlying95 w2.heap.size dl' rfl HDM.out y1 y2 (.bool true) rfl rfl ?_; intro w5 hm5 hg5; go_frame)
              go_roundw
              case rel => exact ⟨k + 1, by omega, by go_num, B4.out.grown hg5 B4.out.size (fun j e => by cases e; exact Nat.le_refl _), DeadIs.put HDL.out hm5 (dead2_put hyk.out HGL.out)⟩
              case measure => simp [intOf]; omega
          · rw [hdd] at hlk
            simp only [if_true, Option.getD_some] at hlk
            have HDD := Lib.hid hdd
            clear hdd
            go_wp2_with fail
            go_roundw
            case rel => exact ⟨k + 1, by omega, by go_num, B3.out, by rw [dead2_stay hyk.out (.inr HDD.out)]; exact D3.out⟩
            case measure => simp [intOf]; omega
        · have hkk : k = cuts.length := by omega
          subst hkk
          have hkn : ¬ ((cuts.length : Int) < (cuts.length : Int)) := by omega
          have BW := Lib.hid hB
          have DW := Lib.hid hD.out
          have HN := Lib.hid (new_c AO OL.length cO OL wr own3 2 4 (R2.out.keep (Same.below (own := own3) hB)).toIdsR.2 rfl (by unfold maxLen; omega) (by decide))
          rw [newL_self HO.out.1 hle] at HN
          clear hB hD hk hlt
          generalize wr = V3 at *
          go_wp2_with fail
          refine HN.out.mono ?_
          rintro e w4 ⟨own4, qa, rfl, tr4, _, ax4⟩
          have T4 := Lib.hid tr4
          have A4 : Hid (AxisAt w4 own4 4 qa OL (liveAt OL (liveB puts cuts gl) 0)) := by rw [liveAt_zero]; exact ax4
          clear tr4 ax4 HN
          go_wp2_with fail
          go_loopw [74] (fun i W => ∃ (k : Nat) (ow : Tags), k ≤ OL.length ∧ i = .int .i64 k ∧ Hid (Tr own3 4 V3 ow W) ∧ Hid (AxisAt W ow 4 qa OL (liveAt OL (liveB puts cuts gl) k))) (fun i _ => OL.length - (intOf i).toNat)
          case atStart => exact ⟨0, own4, Nat.zero_le _, rfl, T4.out, A4.out⟩
          case round =>
            clear T4 A4
            obtain ⟨k, ow, hk, rfl, tr5, ax5⟩ := hrel
            have hB5 := tr5.out.toBelow (fun k _ => N2.out k)
            by_cases hlt : k < OL.length
            · have hrow := R2.out.keep (Same.below (own := own3) (BW.out.trans (hB5.mono BW.out.size)))
              obtain ⟨bK, oK, hA, _, hbK, hc⟩ := hrow.toIdsR.2 (fun e => by rw [e] at hlt; simp at hlt)
              subst hA
              obtain ⟨g1, g2⟩ := hc k hlt
              have hyk := Lib.hid (List.getElem?_eq_getElem hlt)
              have hym : OL[k] ∈ OL := List.getElem_mem hlt
              clear hc hrow
              generalize OL[k] = y at *
              obtain ⟨y1, y2⟩ := y
              dsimp only at g1 g2
              have hk0 : (0 : Int) ≤ (k : Int) := by omega
              have hkn : (k : Int) < (OL.length : Int) := by omega
              have bl2 : Below wr.heap.size wr (wr.alloc (.cells #[.int .i64 y1, .int .i64 y2] 24)) := (Below.refl _ _).alloc (Nat.le_refl _) _
              have hsz : w2.heap.size < V3.heap.size := by
                obtain ⟨dl, hm, _⟩ := DW.out
                exact hm.lt
              obtain ⟨dl, hdm, hdl⟩ := DW.out.next (((hB5.trans (bl2.mono hB5.size))).block _ hsz)
              have hlk := MapIs.look hdm Try.underlying95 (zero4 _) (y1, y2) false
              rw [hdl, dead2_end hym] at hlk
              simp only [idv, Bool.false_eq_true, if_false] at hlk
              have T6 := Lib.hid (tr5.out.below bl2)
              have A6 := Lib.hid (ax5.out.keep (Same.below (own := ow) bl2))
              clear hdm hdl hB5 tr5 ax5 hym
              cases hlv : liveB puts cuts gl (y1, y2)
              · rw [hlv] at hlk
                simp only [Bool.not_false, if_true, Option.getD_some] at hlk
                have HLV := Lib.hid hlv
                have HDEL := Lib.hid (delete_c _ ow 4 qa OL _ y1 y2 A6.out)
                rw [liveAt_dead (List.nodup_cons.1 HO.out.1).2 hyk.out hlv] at HDEL
                clear hlv
                go_wp2_with fail
                refine HDEL.out.mono ?_
                rintro e W7 ⟨rfl, ow7, tr7, ax7⟩
                have T7 := Lib.hid (T6.out.trans tr7)
                have A7 := Lib.hid ax7
                clear tr7 ax7 HDEL
                go_wp2_with fail
                go_roundw
                case rel => exact ⟨k + 1, ow7, by omega, by go_num, T7.out, A7.out⟩
                case measure => simp [intOf]; omega
              · rw [hlv] at hlk
                simp only [Bool.not_true, Bool.false_eq_true, if_false, Option.getD_none] at hlk
                have HLV := Lib.hid hlv
                clear hlv
                go_wp2_with fail
                go_roundw
                case rel => exact ⟨k + 1, ow, by omega, by go_num, T6.out, by rw [liveAt_live hyk.out HLV.out]; exact A6.out⟩
                case measure => simp [intOf]; omega
            · have hkk : k = OL.length := by omega
              subst hkk
              have hkn : ¬ ((OL.length : Int) < (OL.length : Int)) := by omega
              have HB5 := Lib.hid hB5
              clear hB5
              go_wp2_with fail
              go_ret
              refine ⟨qa, ow, rfl, B2.out.trans ((BW.out.trans (HB5.out.mono BW.out.size)).mono B2.out.size), ?_⟩
              rw [HOL.out]
              have := ax5.out
              rw [liveAt_end] at this
              exact this
end Go.Proofs.Ytgmlhpkhecbkoaa
namespace Go.Proofs.Ytgmlhpkhecbkoaa
open Go.RowKit Go.Shelf

attribute [local go_sem] Oper.semAt_some

set_option maxRecDepth 100000 in
set_option maxHeartbeats 1000000 in
theorem gone78_c (A : Option Addr) (n c : Nat) (gl : List Id) (G : Nat) (w : World) (hb : Blk w G 22 #[.slice A n c]) (hA : IdsR w (fun _ => 0) 0 A gl) (hl : gl.length = n) (hn : n ≤ 1000000) : GoneC 78 G gl w := by
  intro W hW x1 x2
  have bl : Below W.heap.size W (W.alloc (.cells #[.int .i64 x1, .int .i64 x2] 24)) := (Below.refl _ W).alloc (Nat.le_refl _) _
  have hb1 := (hb.kept (hW.block G hb.lt)).alloc (.cells #[.int .i64 x1, .int .i64 x2] 24)
  have c0 := hb1.cell 0
  have hG := (hb.kept (hW.block G hb.lt)).lt
  have HI := Lib.hid (in36_c A n c gl x1 x2 _ (fun _ => 0) 0 ((hA.belowTo hW).belowTo bl) hl hn)
  have BL := Lib.hid bl
  simp only [List.getElem?_toArray, List.getElem?_cons_zero] at c0
  clear hb1 hb hA hl bl hW
  go_enter Try.func78, Try.ntmps78
  go_wp2_with fail
  refine HI.out.mono ?_
  rintro e w1 ⟨rfl, hB⟩
  have HB := Lib.hid hB
  clear hB
  go_wp2_with fail
  go_ret
  exact ⟨rfl, Below.comp BL.out HB.out⟩
set_option maxRecDepth 100000 in
set_option maxHeartbeats 1000000 in
theorem gone53_c (A : Option Addr) (n c : Nat) (gl : List Id) (G : Nat) (w : World) (hb : Blk w G 22 #[.slice A n c]) (hA : IdsR w (fun _ => 0) 0 A gl) (hl : gl.length = n) (hn : n ≤ 1000000) : GoneC 53 G gl w := by
  intro W hW x1 x2
  have bl : Below W.heap.size W (W.alloc (.cells #[.int .i64 x1, .int .i64 x2] 24)) := (Below.refl _ W).alloc (Nat.le_refl _) _
  have hb1 := (hb.kept (hW.block G hb.lt)).alloc (.cells #[.int .i64 x1, .int .i64 x2] 24)
  have c0 := hb1.cell 0
  have hG := (hb.kept (hW.block G hb.lt)).lt
  have HI := Lib.hid (in36_c A n c gl x1 x2 _ (fun _ => 0) 0 ((hA.belowTo hW).belowTo bl) hl hn)
  have BL := Lib.hid bl
  simp only [List.getElem?_toArray, List.getElem?_cons_zero] at c0
  clear hb1 hb hA hl bl hW
  go_enter Try.func53, Try.ntmps53
  go_wp2_with fail
  refine HI.out.mono ?_
  rintro e w1 ⟨rfl, hB⟩
  have HB := Lib.hid hB
  clear hB
  go_wp2_with fail
  go_ret
  exact ⟨rfl, Below.comp BL.out HB.out⟩

/-- The live ones of pairs. -/
def aliveP (l : List (Id × Bool)) : List Id := (l.filter Prod.snd).map Prod.fst
theorem aliveP_snoc (l : List (Id × Bool)) (x : Id × Bool) : aliveP (l ++ [x]) = if x.2 then aliveP l ++ [x.1] else aliveP l := by
  unfold aliveP
  rw [List.filter_append]
  cases h : x.2 <;> simp [List.filter_cons, h]
theorem aliveP_zip (l : List Id) (f : Id → Bool) : aliveP (l.zip (l.map f)) = l.filter f := by
  unfold aliveP
  induction l with
  | nil => rfl
  | cons x l ih =>
    simp only [List.map_cons, List.zip_cons_cons, List.filter_cons]
    cases f x <;> simp [ih]
theorem aliveP_le (l : List (Id × Bool)) : (aliveP l).length ≤ l.length := by
  unfold aliveP
  rw [List.length_map]; exact List.length_filter_le _ _
/-- A list of ids is handed back; nothing old has turned. -/
def LiveP (w : World) (l : List Id) (e : Ending) (w' : World) : Prop :=
  ∃ A c, e = .returned (.slice A l.length c) ∧ Below w.heap.size w w' ∧ IdsR w' (fun _ => 0) 0 A l

set_option maxRecDepth 100000 in
set_option maxHeartbeats 4000000 in
theorem live56_c (w : World) (own : Tags) (t p : Nat) (first : List Id) (puts cuts : List (Id × Id)) (h : ShAt w own t p first puts cuts) (hcl : cuts.length ≤ 1000) (A : Option Addr) (n c : Nat) (gl : List Id) (hA : IdsR w (fun _ => 0) 0 A gl) (hl : gl.length = n) (hn : n ≤ 1000000) :
    Calls Try.prog 56 #[.pointer (some ⟨p, 0, none⟩), .slice A n c] w (LiveP w ((orderL first puts).filter (liveB puts cuts gl))) := by
  have hle : (orderL first puts).length ≤ 1000 := by have := h.wf.len; have := (order_facts h.wf).2.2; omega
  have bG := Blk.new w 22 #[.slice A n c]
  have bl1 : Below w.heap.size w (w.alloc (.cells #[.slice A n c] 22)) := (Below.refl _ w).alloc (Nat.le_refl _) _
  have bl2 : Below (w.alloc (.cells #[.slice A n c] 22)).heap.size (w.alloc (.cells #[.slice A n c] 22)) ((w.alloc (.cells #[.slice A n c] 22)).alloc (.cells #[.slice none 0 0] 22)) := (Below.refl _ _).alloc (Nat.le_refl _) _
  have HX := Lib.hid (axis52_c _ own t p first puts cuts (h.next (Below.comp bl1 bl2)) hcl 78 w.heap.size gl (enters_of Try.func78 (by kernel_rfl) rfl) (gone78_c A n c gl w.heap.size _ (bG.alloc (.cells #[.slice none 0 0] 22)) (hA.belowTo (Below.comp bl1 bl2)) hl hn))
  have BL1 := Lib.hid bl1
  have bB := Lib.hid (Blk.new (w.alloc (.cells #[.slice A n c] 22)) 22 #[.slice none 0 0])
  have BL2 := Lib.hid bl2
  have hsz : (w.alloc (.cells #[.slice A n c] 22)).heap.size = w.heap.size + 1 := by simp
  clear h hA hl bG bl1 bl2
  refine (callsIn_wide (n := 3)).1 (callsIn_of_wp_marks Try.func56 rfl trivial ?_ rfl)
  simp only [Try.ntmps56, List.size_toArray, List.length_cons, List.length_nil, Nat.reduceAdd, Nat.reduceSub, Array.replicate_succ, Array.replicate_zero, List.push_toArray, List.append_toArray, List.nil_append, List.cons_append]
  refine wpIn_wide.2 ?_
  go_wp2_with fail
  refine HX.out.mono ?_
  rintro e w3 ⟨qa, ownA, rfl, hb3, ax3⟩
  go_wp2_with fail
  refine (all_c _ _).mono ?_
  rintro e w4 ⟨rfl, rfl⟩
  obtain ⟨OL, hOL⟩ : ∃ OL, orderL first puts = OL := ⟨_, rfl⟩
  rw [hOL] at ax3 hle ⊢
  generalize hV0 : w.alloc (.cells #[.slice A n c] 22) = V0 at *
  rw [hsz] at bB
  have bl4 : Below w3.heap.size w3 (w3.alloc (.cells #[.pointer (some ⟨qa, 0, none⟩)] 26)) := (Below.refl _ w3).alloc (Nat.le_refl _) _
  have bl5 := Below.comp BL2.out hb3
  have a0 : Hid (AI V0 (fun _ => 0) 5 (w.heap.size + 1) [] (fun _ => 0) (.slice none 0 0) (w3.alloc (.cells #[.pointer (some ⟨qa, 0, none⟩)] 26))) := by
    refine ⟨(Tr.refl _ _ _).below (Below.comp bl5 bl4), ((bB.out.kept (hb3.block _ bB.out.lt)).kept (bl4.block _ (Nat.lt_of_lt_of_le bB.out.lt hb3.size))), by simpa [idCells] using Row.nil _ _ 5 24 2⟩
  have hB0 : Hid ((w3.alloc (.cells #[.pointer (some ⟨qa, 0, none⟩)] 26)).cell? ⟨w3.heap.size, 0, none⟩ = some (.pointer (some ⟨qa, 0, none⟩))) := (Blk.new w3 26 #[.pointer (some ⟨qa, 0, none⟩)]).cell 0
  have A4 := Lib.hid (ax3.keep (Same.below (own := ownA) bl4))
  have hVS : V0.heap.size < w3.heap.size := by have := bB.out.lt; have := hb3.size; omega
  have hW0 : V0.heap.size ≤ (w3.alloc (.cells #[.pointer (some ⟨qa, 0, none⟩)] 26)).heap.size := by simp; omega
  generalize hSZ : w3.heap.size = SZ at *
  clear HX hb3 ax3 bl4 bl5 bB BL2
  go_wp2_with fail
  generalize w3.alloc (.cells #[.pointer (some ⟨qa, 0, none⟩)] 26) = W0 at *
  refine (wpIn_wide (n := 3)).1 ?_
  refine wpIn_rangeFunc_ownH rfl (by omega) (gf := 70) (lb := #[.pointer (some ⟨SZ, 0, none⟩)]) rfl trivial (enters_of Try.func70 (by kernel_rfl) rfl)
    (all70_stops 2 (by omega) SZ qa 4 ownA OL (OL.map (liveB puts cuts gl)) (Fo29 (w.heap.size + 1)) (fo29_ok _) W0 (fun W' hW' k hk => a0.out.foreign hk W' hW') hB0.out A4.out) KF.trans (fun W l o o' _ h1 h2 _ => KF.put (fo29_ok _) W l o o' h1 h2) (Below.refl _ _) (fun _ => rfl)
    (fun pre W => ∃ own1 v, AI V0 (fun _ => 0) 5 (w.heap.size + 1) (aliveP pre) own1 v W) (fun _ _ _ => False)
    (fun pre W W' row hs hg hr => by
      obtain ⟨own1, v, ci⟩ := hs
      exact ⟨own1, v, ci.grow (by omega) hg hr⟩) (fun _ _ _ _ _ hs _ _ => hs) ⟨_, _, a0.out⟩
    (fun x a' W => ∃ Bx, Fo29 (w.heap.size + 1) W Bx ∧ Blk W Bx 24 #[.int .i64 x.1.1, .int .i64 x.1.2] ∧ a' = { tmps := #[.pointer (some ⟨p, 0, none⟩), .slice A n c, undef, .pointer (some ⟨w.heap.size, 0, none⟩), .slice none 0 0, .pointer (some ⟨w.heap.size + 1, 0, none⟩), .pointer (some ⟨Bx, 0, none⟩), .bool x.2, .pointer (some ⟨p, 0, none⟩), .func (.func 78) #[] #[.pointer (some ⟨w.heap.size, 0, none⟩)], .pointer (some ⟨qa, 0, none⟩), .func (.func 70) #[] #[.pointer (some ⟨SZ, 0, none⟩)], .agg #[.int .i64 x.1.1, .int .i64 x.1.2], .bool x.2, undef, undef, undef, undef, undef, undef], defers := [] })
    (fun x a' _ W W' row hs hg hr => by
      obtain ⟨Bx, h1, h2, h3⟩ := hs
      exact ⟨Bx, fo29_ok _ W W' row Bx h1 hg (fun r e => (hr r e).2), h2.own hg (fun r e => (hr r e).2), h3⟩) ?assign ?body ?done ?stop
  case assign =>
    rintro l pre x W K ⟨own1, v, ci⟩ hK
    unfold pairv
    gi_wp2
    exact hK _ _ ((KeepsOthers.alloc _ _).from _) (KF.below (fo29_ok _) ((Below.refl _ W).alloc (Nat.le_refl _) _)) ⟨own1, v, ci.next ((Below.refl _ W).alloc (Nat.le_refl _) _)⟩ ⟨W.heap.size, ci.foreign (Nat.le_refl _) _ ((Below.refl _ W).alloc (Nat.le_refl _) _), Blk.new W 24 _, rfl⟩
  case body =>
    rintro l pre x a' W hl ⟨r, hr⟩ ⟨own1, v, ci⟩ ⟨Bx, hf, bX, rfl⟩ hlt
    obtain ⟨⟨z1, z2⟩, zb⟩ := x
    dsimp only at bX ⊢
    have hn2 : (aliveP pre).length < 1000 := by have := aliveP_le pre; omega
    have hap := Lib.hid (aliveP_snoc pre ((z1, z2), zb))
    dsimp only at hap
    generalize aliveP pre = AP0 at *
    cases zb
    · simp only [Bool.false_eq_true, if_false] at hap
      have HCI := Lib.hid ci
      clear ci hf bX hr hlt hl a0
      gi_wp2
      exact ⟨(KeepsOthers.refl _).from _, fun k cs e m _ hf => ⟨rfl, hf⟩, own1, v, by rw [hap.out]; exact HCI.out⟩
    · simp only [if_true] at hap
      obtain ⟨AI0, cI, rfl, _⟩ := ci.row.form
      have cb := ci.box.cell 0
      have hB := ci.box.lt
      have e0 := bX.cell 0
      have e1 := bX.cell 1
      simp only [List.getElem?_toArray, List.getElem?_cons_zero, List.getElem?_cons_succ] at cb e0 e1
      have bl1 : Below W.heap.size W (W.alloc (.cells #[.int .i64 z1, .int .i64 z2] 24)) := (Below.refl _ W).alloc (Nat.le_refl _) _
      have ci1 := Lib.hid (ci.next bl1)
      obtain ⟨i0, hi, hz0, hz1, hz2⟩ := info_parts Try.info24
      have KF0 := Lib.hid (KF.below (fo29_ok (w.heap.size + 1)) bl1)
      clear ci hf bX hr bl1 hlt hl a0
      gi_wp2_with (gi_at_builtin; refine list_round (by rintro ⟨_, _, h⟩; exact h) _ _ _ (by kernel_rfl) ?_; refine wpList_append_own_at _ rfl _ _ _ rfl 0 24 i0 _ 2 16 Try.underlying22 hi hz0 hz1 hz2 rfl (by omega) _ _ _ rfl ci1.out.row.1 ⟨W.heap.size, 0, none⟩ 1 1 [.int .i64 z1, .int .i64 z2] rfl rfl (World.news_of_block (cs := #[.int .i64 z1, .int .i64 z2]) (t := 24) (fr := (0, 0)) (heap_alloc_new W _)) (by simp [Value.oneCell']) (by simp only [maxLen]; omega) (by omega) (Nat.zero_le _) ?_)
      intro v' w2 hown2 hgrow2 _ hat2
      obtain ⟨gN, cN, rfl⟩ := ownsRow_slice hown2 (by omega)
      have hr2 : w2.ownsRow 0 24 2 (.slice (some ⟨gN, 0, none⟩) (AP0 ++ [(z1, z2)]).length cN) (AP0 ++ [(z1, z2)]).length (idCells (AP0 ++ [(z1, z2)])) := by
        rw [List.length_append, List.length_singleton]
        simpa [idCells_append, idCells] using hown2
      obtain ⟨b1, kf1, own2, ci2⟩ := ci1.out.put (l' := AP0 ++ [(z1, z2)]) (by omega) hgrow2 hr2 (hat2.imp (fun e => e.symm.trans rfl) (fun e => by
        have e' : gN = (W.alloc (.cells #[.int .i64 z1, .int .i64 z2] 24)).heap.size := by simpa [Value.ownBlock] using e
        exact ⟨by omega, (hown2.lt gN rfl).2⟩))
      have KO1 := Lib.hid ((KeepsOthers.alloc W (.cells #[.int .i64 z1, .int .i64 z2] 24)).trans ((keeps_app ci1.out.row hgrow2).trans (KeepsOthers.setCell w2 ⟨w.heap.size + 1, 0, none⟩ (.slice (some ⟨gN, 0, none⟩) (AP0.length + 1) cN))))
      have f0 := b1.frozen 0
      have g0 := b1.cell 0
      simp only [List.getElem?_toArray, List.getElem?_cons_zero] at g0
      have KF1 := Lib.hid kf1
      have CI2 := Lib.hid ci2
      rw [List.length_append, List.length_singleton] at KF1 CI2
      clear kf1 ci2 hown2 hgrow2 hat2 hr2 b1 e0 e1 cb
      go_wp2_with fail
      exact ⟨KO1.out.from _, KF0.out.trans KF1.out, own2, _, by rw [hap.out]; exact CI2.out⟩
  case done =>
    rintro D ys W hD rfl ⟨own1, v, ci⟩ hK
    rw [aliveP_zip] at ci
    have cb := ci.box.cell 0
    have hB := ci.box.lt
    obtain ⟨AR, cR, rfl, _⟩ := ci.row.form
    simp only [List.getElem?_toArray, List.getElem?_cons_zero] at cb
    have HCI := Lib.hid ci
    have HK := Lib.hid hK
    clear ci hK
    dsimp only
    go_wp2_with fail
    refine ⟨by simp, .inl ⟨_, _, rfl, run_takeDeferred HK.out, ?_⟩⟩
    have ci5 := HCI.out.grow (W1 := W.putObj D (.deferred none)) (row := some D) (S := V0.heap.size) (Nat.le_refl _) (grownBy_putObj' W D (.deferred none)) (fun r e => by cases e; exact ⟨by omega, _, HK.out, rfl⟩)
    exact ⟨_, results_tmp rfl _ _ _, AR, cR, by rw [hOL]; rfl, Below.comp BL1.out (ci5.tr.toBelow (fun k _ => by decide)), by rw [hOL]; exact ci5.row.toIdsR.2.plain⟩
  case stop =>
    rintro D c pre W _ _ h _
    exact h.elim

set_option maxRecDepth 100000 in
set_option maxHeartbeats 4000000 in
theorem dead57_c (w : World) (own : Tags) (t p : Nat) (first : List Id) (puts cuts : List (Id × Id)) (h : ShAt w own t p first puts cuts) (hcl : cuts.length ≤ 1000) (A : Option Addr) (n c : Nat) (gl : List Id) (hA : IdsR w (fun _ => 0) 0 A gl) (hl : gl.length = n) (hn : n ≤ 1000000) (Bq Bi : Nat) (x y : Int)
    (hq : Blk w Bq 39 #[.pointer (some ⟨p, 0, none⟩)]) (hi : Blk w Bi 24 #[.int .i64 x, .int .i64 y]) :
    Calls Try.prog 57 #[.slice A n c, .pointer (some ⟨Bq, 0, none⟩), .pointer (some ⟨Bi, 0, none⟩)] w fun e w' => e = .returned (.bool (!decide ((x, y) ∈ (orderL first puts).filter (liveB puts cuts gl)))) ∧ Below w.heap.size w w' := by
  have hle : (orderL first puts).length ≤ 1000 := by have := h.wf.len; have := (order_facts h.wf).2.2; omega
  have hle2 : ((orderL first puts).filter (liveB puts cuts gl)).length ≤ 1000 := Nat.le_trans (List.length_filter_le _ _) hle
  have bd : Below w.heap.size w w.drew := (Below.refl _ w).drew
  have HX := Lib.hid (live56_c w.drew own t p first puts cuts (h.next bd) hcl A n c gl (hA.belowTo bd) hl hn)
  have HAC : Hid (∀ W', Below w.heap.size w W' → AllCells W' [(⟨Bq, 0, none⟩, .pointer (some ⟨p, 0, none⟩)), (⟨Bi, 0, none⟩, .int .i64 x), (⟨Bi, 1, none⟩, .int .i64 y)]) := fun W' hW' => by
    have h1 := hq.kept (hW'.block Bq hq.lt)
    have h2 := hi.kept (hW'.block Bi hi.lt)
    exact ⟨h1.cell 0, h2.cell 0, h2.cell 1, trivial⟩
  have BD := Lib.hid bd
  clear h hA hl hq hi bd hle
  generalize (orderL first puts).filter (liveB puts cuts gl) = LL at *
  go_enter Try.func57, Try.ntmps57
  go_wp2_with fail
  refine region_free _ [0, 1, 3] 4 (by kernel_rfl) (by kernel_rfl) (by kernel_rfl) (by kernel_rfl) (by kernel_rfl) (fun _ _ _ _ _ h => h) (HAC.out _ BD.out) ?_
  intro hne hu
  simp only [AllCells] at hu
  simp only [pick, List.take_succ_cons, List.take_zero, List.drop_succ_cons, List.drop_zero, List.cons_append, List.nil_append]
  repeat (go_big_quiet_step (fail))
  refine wpQuiet_nil ?_
  clear hne hu
  refine anyN_oneL 2 (by kernel_rfl) ?_
  simp only [List.take_succ_cons, List.take_zero, List.drop_succ_cons, List.drop_zero]
  go_wp2_with fail
  refine HX.out.mono ?_
  rintro e w1 ⟨A1, c1, rfl, hb1, hA1⟩
  have B1 := Lib.hid (BD.out.trans hb1)
  have HI := Lib.hid (in36_c A1 LL.length c1 LL x y w1 (fun _ => 0) 0 hA1 rfl (by omega))
  clear hb1 hA1 HX
  go_wp2_with fail
  refine And.intro (fun _ => HAC.out _ B1.out) ?_
  refine anyN_oneL 4 (by kernel_rfl) ?_
  simp only [List.take_succ_cons, List.take_zero, List.drop_succ_cons, List.drop_zero]
  go_wp2_with fail
  refine HI.out.mono ?_
  rintro e w2 ⟨rfl, hb2⟩
  have B2 := Lib.hid (B1.out.trans (hb2.mono B1.out.size))
  clear hb2 HI
  generalize hdb : decide ((x, y) ∈ LL) = db
  have HDB := Lib.hid hdb
  clear hdb
  go_wp2_with fail
  refine And.intro (fun _ => HAC.out _ B2.out) ?_
  refine anyN_oneL 5 (by kernel_rfl) ?_
  simp only [List.take_succ_cons, List.take_zero, List.drop_succ_cons, List.drop_zero]
  go_wp2_with fail
  refine And.intro (fun _ => HAC.out _ B2.out) ?_
  refine anyN_oneL 6 (by kernel_rfl) ?_
  simp only [List.take_succ_cons, List.take_zero, List.drop_succ_cons, List.drop_zero]
  go_wp2_with fail
  refine And.intro (fun _ => HAC.out _ B2.out) ?_
  refine ⟨by kernel_rfl, ?_⟩
  go_wp2_with fail
  go_ret
  exact ⟨by rw [HDB.out]; rfl, B2.out⟩
end Go.Proofs.Ytgmlhpkhecbkoaa
namespace Go.Proofs.Ytgmlhpkhecbkoaa
open Go.RowKit Go.Shelf

def tx : Id := (901, 1099511627776)
def ty : Id := (902, 1099511627776)
section
variable {F : List Id} {P : List (Id × Id)} {z : Id}
theorem twice_live (hx : has F P tx = false) (hy : has F P ty = false) (hz : has F P z = true) (gl : List Id) (hg : ∀ g ∈ gl, g = tx ∨ g = ty) (a : Id) : liveB P [(a, tx), (a, ty)] gl z = (if z = a then decide (tx ∈ gl) && decide (ty ∈ gl) else true) := by
  have h1 : z ∉ gl := fun h => by
    rcases hg z h with e | e
    · rw [e, hx] at hz; cases hz
    · rw [e, hy] at hz; cases hz
  unfold liveB
  rw [decide_eq_false h1, Bool.and_false, Bool.not_false, Bool.true_and]
  by_cases ha : z = a
  · subst ha
    rw [if_pos rfl, ← Bool.decide_and]
    congr 1
    simp
  · have ha' : ¬ a = z := fun e => ha e.symm
    rw [if_neg ha]
    simp [ha']
theorem twice_plain (hw : Wf F P) (hx : has F P tx = false) (hy : has F P ty = false) (hz : z ∈ orderL F P) :
    z ∉ (orderL F P).filter (liveB P [(z, tx), (z, ty)] []) ∧ z ∉ (orderL F P).filter (liveB P [(z, tx), (z, ty)] [tx]) ∧ z ∉ (orderL F P).filter (liveB P [(z, tx), (z, ty)] [ty]) ∧ z ∈ (orderL F P).filter (liveB P [(z, tx), (z, ty)] [tx, ty]) ∧
    (((orderL F P).filter (liveB P [(z, tx), (z, ty)] [])).length : Int) = (orderL F P).length - 1 ∧ (orderL F P).filter (liveB P [(z, tx), (z, ty)] [tx, ty]) = orderL F P := by
  obtain ⟨f1, f2, _⟩ := order_facts hw
  have hxy : tx ≠ ty := by decide
  have key := fun (x : Id) (hm : x ∈ orderL F P) gl hg => twice_live (F := F) (P := P) (z := x) hx hy ((f2 x).1 hm) gl hg z
  refine ⟨fun h => ?_, fun h => ?_, fun h => ?_, ?_, ?_, ?_⟩
  · have := (List.mem_filter.1 h).2
    rw [key z hz [] (by simp), if_pos rfl] at this
    simp at this
  · have := (List.mem_filter.1 h).2
    rw [key z hz [tx] (by simp), if_pos rfl] at this
    simp [hxy.symm] at this
  · have := (List.mem_filter.1 h).2
    rw [key z hz [ty] (by simp), if_pos rfl] at this
    simp [hxy] at this
  · refine List.mem_filter.2 ⟨hz, ?_⟩
    rw [key z hz [tx, ty] (by simp), if_pos rfl]
    simp
  · have e : (orderL F P).filter (liveB P [(z, tx), (z, ty)] []) = (orderL F P).erase z := by
      have hnd := (List.nodup_cons.1 f1).2
      rw [hnd.erase_eq_filter]
      refine List.filter_congr fun x hm => ?_
      rw [key x hm [] (by simp)]
      by_cases hxz : x = z
      · rw [if_pos hxz]; simp [hxz]
      · rw [if_neg hxz]; simp [hxz]
    rw [e, List.length_erase_of_mem hz]
    have : 0 < (orderL F P).length := List.length_pos_of_mem hz
    omega
  · refine List.filter_eq_self.2 fun x hm => ?_
    rw [key x hm [tx, ty] (by simp)]
    by_cases hxz : x = z
    · rw [if_pos hxz]; simp
    · rw [if_neg hxz]
theorem twice_cut1 (hz : has F P z = true) : cutS F P [] z tx = 0 ∧ cutCuts F P [] z tx = [(z, tx)] := by
  have h : cutS F P [] z tx = 0 := by
    unfold cutS
    rw [if_neg (by decide), if_neg (by simp [hz]), if_neg (by simp)]
  exact ⟨h, by unfold cutCuts; rw [if_pos h]; rfl⟩
theorem twice_cut2 (hz : has F P z = true) : cutS F P [(z, tx)] z ty = 0 ∧ cutCuts F P [(z, tx)] z ty = [(z, tx), (z, ty)] := by
  have h : cutS F P [(z, tx)] z ty = 0 := by
    unfold cutS
    rw [if_neg (by decide), if_neg (by simp [hz]), if_neg (by simp; decide)]
  exact ⟨h, by unfold cutCuts; rw [if_pos h]; rfl⟩
theorem twice_cut3 (hz : has F P z = true) : cutS F P [(z, tx), (z, ty)] z ty = 4 ∧ cutCuts F P [(z, tx), (z, ty)] z ty = [(z, tx), (z, ty)] := by
  have h : cutS F P [(z, tx), (z, ty)] z ty = 4 := by
    unfold cutS
    rw [if_neg (by decide), if_neg (by simp [hz]), if_pos (by simp)]
  exact ⟨h, by unfold cutCuts; rw [h]; rfl⟩
end
/-- What SeqcTwice holds. -/
structure TW (w : World) (q Bq : Nat) (F : List Id) (P C : List (Id × Id)) (AW : Option Addr) (cW : Nat) (OL : List Id) (Bi Bx By : Nat) (z1 z2 : Int) (own : Tags) (W : World) : Prop where
  clean : Clean w own W
  sh : ShAt W own 1 q F P C
  bq : Box W own Bq 39 #[.pointer (some ⟨q, 0, none⟩)]
  rW : Row W own 2 24 2 (.slice AW OL.length cW) OL.length (idCells OL)
  bi : Box W own Bi 24 #[.int .i64 z1, .int .i64 z2]
  bx : Box W own Bx 24 #[.int .i64 901, .int .i64 1099511627776]
  by' : Box W own By 24 #[.int .i64 902, .int .i64 1099511627776]
section
variable {w W W' : World} {q Bq : Nat} {F : List Id} {P C C' : List (Id × Id)} {AW : Option Addr} {cW : Nat} {OL : List Id} {Bi Bx By : Nat} {z1 z2 : Int} {own own' : Tags}
theorem TW.next (h : TW w q Bq F P C AW cW OL Bi Bx By z1 z2 own W) (k : Below W.heap.size W W') : TW w q Bq F P C AW cW OL Bi Bx By z1 z2 own W' :=
  ⟨h.clean.next k, h.sh.next k, h.bq.next k, h.rW.keep (Same.below k), h.bi.next k, h.bx.next k, h.by'.next k⟩
theorem TW.cut (h : TW w q Bq F P C AW cW OL Bi Bx By z1 z2 own W) (k : Tr own 1 W own' W') (s : ShAt W' own' 1 q F P C') : TW w q Bq F P C' AW cW OL Bi Bx By z1 z2 own' W' :=
  ⟨h.clean.tr k (by decide), s, h.bq.tr k (by decide), h.rW.keep (k.toSame (by decide)), h.bi.tr k (by decide), h.bx.tr k (by decide), h.by'.tr k (by decide)⟩
theorem TW.other (h : TW w q Bq F P C AW cW OL Bi Bx By z1 z2 own W) (k : Tr own 3 W own' W') : TW w q Bq F P C AW cW OL Bi Bx By z1 z2 own' W' :=
  ⟨h.clean.tr k (by decide), h.sh.other k (by decide), h.bq.tr k (by decide), h.rW.keep (k.toSame (by decide)), h.bi.tr k (by decide), h.bx.tr k (by decide), h.by'.tr k (by decide)⟩
end

theorem ids_none {W : World} {own : Tags} {t : Nat} (A : Option Addr) : IdsR W own t A [] := fun h => absurd rfl h
theorem ids_one {W : World} {g : Nat} {x1 x2 : Int} (h : Blk W g 24 #[.int .i64 x1, .int .i64 x2]) : IdsR W (fun _ => 0) 0 (some ⟨g, 0, none⟩) [(x1, x2)] := fun _ => by
  refine ⟨g, 0, rfl, rfl, h.lt, fun i hi => ?_⟩
  match i, hi with
  | 0, _ => exact ⟨h.cell 0, h.cell 1⟩
theorem ids_two {W : World} {g : Nat} {x1 x2 y1 y2 : Int} (h : Blk W g 24 #[.int .i64 x1, .int .i64 x2, .int .i64 y1, .int .i64 y2]) : IdsR W (fun _ => 0) 0 (some ⟨g, 0, none⟩) [(x1, x2), (y1, y2)] := fun _ => by
  refine ⟨g, 0, rfl, rfl, h.lt, fun i hi => ?_⟩
  match i, hi with
  | 0, _ => exact ⟨h.cell 0, h.cell 1⟩
  | 1, _ => exact ⟨h.cell 2, h.cell 3⟩

set_option maxRecDepth 100000 in
set_option maxHeartbeats 8000000 in
theorem twice_few (A D : Option Addr) (n c m d : Nat) (ids0 : List Id) (ps : List (Id × Id)) (u : Nat) (w : World) (hR : IdsR w (fun _ => 0) 0 A ids0) (hn : ids0.length = n) (hD : ManyR putOf 4 w (fun _ => 0) 0 D ps) (hm : ps.length = m) (h1 : n ≤ 12) (h2 : m ≤ 12) (hu : u < 256) :
    Calls Try.prog 15 #[.slice A n c, .slice D m d, .int .u8 u] w fun e w' => e = .returned (.bool true) ∧ Below w.heap.size w w' := by
  have hn' := Lib.hid hn
  have hm' := Lib.hid hm
  have HR := Lib.hid hR
  have HD := Lib.hid hD
  clear hn hm hR hD
  have q1 : ¬ ((12 : Int) < (n : Int)) := by omega
  have q2 : ¬ ((12 : Int) < (m : Int)) := by omega
  go_enter Try.func15, Try.ntmps15
  go_wp2_with fail
  refine (awake24_c _).mono ?_
  rintro e w1 ⟨rfl, hB⟩
  have K1 := Lib.hid ((Clean.start w).next hB)
  clear hB
  go_wp2_with fail
  have r1 := HR.out.keep K1.out.below.size (Same.below K1.out.below)
  refine (snew_c A n c ids0 w1 (fun _ => 0) 0 1 r1 hn'.out (by simp [maxLen]; omega) (by decide) K1.out.fresh (by decide)).mono ?_
  rintro e w2 ⟨own2, q, rfl, tr2, a2⟩
  have k2 := K1.out.tr tr2 (by decide)
  have K2 := Lib.hid (k2.alloc (.cells #[.pointer (some ⟨q, 0, none⟩)] 39))
  have D2 := Lib.hid (((HD.out.keep K1.out.below.size (Same.below K1.out.below)).keep tr2.size (tr2.toSame (by decide))).keep (w' := w2.alloc (.cells #[.pointer (some ⟨q, 0, none⟩)] 39)) (by simp) (Same.alloc _))
  have A2 := Lib.hid (a2.keep (Same.alloc (.cells #[.pointer (some ⟨q, 0, none⟩)] 39)))
  have Q2 := Lib.hid (Box.new k2.fresh 39 #[.pointer (some ⟨q, 0, none⟩)])
  clear K1 tr2 a2 r1 k2
  go_wp2_with fail
  generalize w2.alloc (.cells #[.pointer (some ⟨q, 0, none⟩)] 39) = V2 at *
  generalize w2.heap.size = Bq at *
  refine (put27_c V2 own2 1 q m d D (newL ids0) [] [] ps A2.out K2.out.fresh (by decide) D2.out hm'.out (by omega)).mono ?_
  rintro e w3 ⟨rfl, own3, tr3, a3⟩
  have K3 := Lib.hid (K2.out.tr tr3 (by decide))
  have Q3 := Lib.hid (Q2.out.tr tr3 (by decide))
  obtain ⟨PS, hPS⟩ : ∃ PS, passes (newL ids0) ps m [] = PS := ⟨_, rfl⟩
  rw [hPS] at a3
  have A3 := Lib.hid a3
  clear K2 tr3 a3 D2 A2 hPS Q2
  generalize newL ids0 = FI at *
  have cq := Q3.out.blk.cell 0
  have hql := Q3.out.blk.lt
  simp only [List.getElem?_toArray, List.getElem?_cons_zero] at cq
  go_wp2_with fail
  refine (allq_c w3 own3 1 2 q FI PS [] A3.out K3.out.fresh (by decide) (by decide)).mono ?_
  rintro e w4 ⟨v4, own4, rfl, tr4, row4⟩
  have HW := Lib.hid A3.out.wf
  obtain ⟨OL, hOL⟩ : ∃ OL, orderL FI PS = OL := ⟨_, rfl⟩
  have hOl : OL.length ≤ 1000 := by rw [← hOL, (order_facts HW.out).2.2]; exact HW.out.len
  have HOL := Lib.hid hOL
  rw [hOL] at row4
  obtain ⟨AW, cW, rfl, _⟩ := row4.form
  have K4 := Lib.hid (K3.out.tr tr4 (by decide))
  have A4 := Lib.hid (A3.out.other tr4 (by decide))
  have Q4 := Lib.hid (Q3.out.tr tr4 (by decide))
  have R4 := Lib.hid row4
  clear K3 A3 tr4 row4 hOL Q3 cq hql
  by_cases hO0 : OL.length = 0
  · have ho : (OL.length : Int) = 0 := by omega
    clear hO0
    go_wp2_with fail
    go_ret
    exact ⟨rfl, K4.out.below⟩
  · have ho : ¬ ((OL.length : Int) = 0) := by omega
    obtain ⟨kk, hkk⟩ : ∃ kk : Nat, kk = u % OL.length := ⟨_, rfl⟩
    have hkl : kk < OL.length := by have := Nat.mod_lt u (show 0 < OL.length by omega); omega
    have ee : (u : Int) % (OL.length : Int) = (kk : Int) := by rw [hkk]; simp
    clear hkk hO0
    obtain ⟨b1, o1, rfl, _, _, hc1⟩ := R4.out.toIdsR.2 (fun e => by rw [e] at hkl; simp at hkl)
    obtain ⟨g1, g2⟩ := hc1 kk hkl
    have hym : OL[kk] ∈ OL := List.getElem_mem hkl
    clear hc1
    generalize OL[kk] = z at *
    obtain ⟨z1, z2⟩ := z
    dsimp only at g1 g2
    have HYM := Lib.hid hym
    have k1 : (0 : Int) ≤ (kk : Int) := by omega
    have k2 : (kk : Int) < (OL.length : Int) := by omega
    clear hym
    have cq := Q4.out.blk.cell 0
    have hql := Q4.out.blk.lt
    simp only [List.getElem?_toArray, List.getElem?_cons_zero] at cq
    have t5 : Hid (TW w q Bq FI PS [] (some ⟨b1, o1, none⟩) cW OL w4.heap.size (w4.heap.size + 1) (w4.heap.size + 1 + 1) z1 z2 own4 (((w4.alloc (.cells #[.int .i64 z1, .int .i64 z2] 24)).alloc (.cells #[.int .i64 901, .int .i64 1099511627776] 24)).alloc (.cells #[.int .i64 902, .int .i64 1099511627776] 24))) := by
      have b3 : Below w4.heap.size w4 (((w4.alloc (.cells #[.int .i64 z1, .int .i64 z2] 24)).alloc (.cells #[.int .i64 901, .int .i64 1099511627776] 24)).alloc (.cells #[.int .i64 902, .int .i64 1099511627776] 24)) := (((Below.refl _ _).alloc (Nat.le_refl _) _).alloc (by simp) _).alloc (by simp; omega) _
      have f0 := K4.out.fresh
      have x1 := ((Box.new f0 24 #[.int .i64 z1, .int .i64 z2]).alloc (.cells #[.int .i64 901, .int .i64 1099511627776] 24)).alloc (.cells #[.int .i64 902, .int .i64 1099511627776] 24)
      have x2 := (Box.new (f0.alloc (.cells #[.int .i64 z1, .int .i64 z2] 24)) 24 #[.int .i64 901, .int .i64 1099511627776]).alloc (.cells #[.int .i64 902, .int .i64 1099511627776] 24)
      have x3 := Box.new ((f0.alloc (.cells #[.int .i64 z1, .int .i64 z2] 24)).alloc (.cells #[.int .i64 901, .int .i64 1099511627776] 24)) 24 #[.int .i64 902, .int .i64 1099511627776]
      simp only [World.size_alloc] at x2 x3
      exact ⟨K4.out.next b3, A4.out.next b3, Q4.out.next b3, R4.out.keep (Same.below b3), x1, x2, x3⟩
    clear K4 A4 Q4 R4 cq hql
    have c_bq0 := t5.out.bq.blk.cell 0
    have l_bq := t5.out.bq.blk.lt
    have c_bi0 := t5.out.bi.blk.cell 0
    have c_bi1 := t5.out.bi.blk.cell 1
    have l_bi := t5.out.bi.blk.lt
    have c_bx0 := t5.out.bx.blk.cell 0
    have c_bx1 := t5.out.bx.blk.cell 1
    have l_bx := t5.out.bx.blk.lt
    have c_by0 := t5.out.by'.blk.cell 0
    have c_by1 := t5.out.by'.blk.cell 1
    have l_by := t5.out.by'.blk.lt
    simp only [List.getElem?_toArray, List.getElem?_cons_zero, List.getElem?_cons_succ] at c_bq0 c_bi0 c_bi1 c_bx0 c_bx1 c_by0 c_by1
    go_wp2_with fail
    clear c_bq0 c_bi0 c_bi1 c_bx0 c_bx1 c_by0 c_by1 l_bq l_bi l_bx l_by
    clear g1 g2
    generalize (((w4.alloc (.cells #[.int .i64 z1, .int .i64 z2] 24)).alloc (.cells #[.int .i64 901, .int .i64 1099511627776] 24)).alloc (.cells #[.int .i64 902, .int .i64 1099511627776] 24)) = V5 at *
    generalize w4.heap.size + 1 + 1 = By at *
    generalize w4.heap.size + 1 = Bx at *
    generalize w4.heap.size = Bi at *
    have HZ : Hid (has FI PS (z1, z2) = true) := ((order_facts HW.out).2.1 _).1 (by rw [HOL.out]; exact HYM.out)
    refine (shas_c V5 own4 1 q FI PS [] 901 1099511627776 t5.out.sh).mono ?_
    rintro e w6 ⟨rfl, hB⟩
    have T6 := Lib.hid (t5.out.next hB)
    clear t5 hB
    obtain ⟨hx, hhx⟩ : ∃ hx, has FI PS (901, 1099511627776) = hx := ⟨_, rfl⟩
    rw [hhx]
    have HHX := Lib.hid hhx
    clear hhx
    have c_bq0 := T6.out.bq.blk.cell 0
    have l_bq := T6.out.bq.blk.lt
    have c_bi0 := T6.out.bi.blk.cell 0
    have c_bi1 := T6.out.bi.blk.cell 1
    have l_bi := T6.out.bi.blk.lt
    have c_bx0 := T6.out.bx.blk.cell 0
    have c_bx1 := T6.out.bx.blk.cell 1
    have l_bx := T6.out.bx.blk.lt
    have c_by0 := T6.out.by'.blk.cell 0
    have c_by1 := T6.out.by'.blk.cell 1
    have l_by := T6.out.by'.blk.lt
    simp only [List.getElem?_toArray, List.getElem?_cons_zero, List.getElem?_cons_succ] at c_bq0 c_bi0 c_bi1 c_bx0 c_bx1 c_by0 c_by1
    cases hx
    · go_wp2_with fail
      clear c_bq0 c_bi0 c_bi1 c_bx0 c_bx1 c_by0 c_by1 l_bq l_bi l_bx l_by
      refine (shas_c w6 own4 1 q FI PS [] 902 1099511627776 T6.out.sh).mono ?_
      rintro e w7 ⟨rfl, hB⟩
      have T7 := Lib.hid (T6.out.next hB)
      clear T6 hB
      obtain ⟨hy, hhy⟩ : ∃ hy, has FI PS (902, 1099511627776) = hy := ⟨_, rfl⟩
      rw [hhy]
      have HHY := Lib.hid hhy
      clear hhy
      have c_bq0 := T7.out.bq.blk.cell 0
      have l_bq := T7.out.bq.blk.lt
      have c_bi0 := T7.out.bi.blk.cell 0
      have c_bi1 := T7.out.bi.blk.cell 1
      have l_bi := T7.out.bi.blk.lt
      have c_bx0 := T7.out.bx.blk.cell 0
      have c_bx1 := T7.out.bx.blk.cell 1
      have l_bx := T7.out.bx.blk.lt
      have c_by0 := T7.out.by'.blk.cell 0
      have c_by1 := T7.out.by'.blk.cell 1
      have l_by := T7.out.by'.blk.lt
      simp only [List.getElem?_toArray, List.getElem?_cons_zero, List.getElem?_cons_succ] at c_bq0 c_bi0 c_bi1 c_bx0 c_bx1 c_by0 c_by1
      cases hy
      · go_wp2_with fail
        clear c_bq0 c_bi0 c_bi1 c_bx0 c_bx1 c_by0 c_by1 l_bq l_bi l_bx l_by
        refine (sdelete_c w7 own4 1 q FI PS [] z1 z2 901 1099511627776 T7.out.sh T7.out.clean.fresh (by decide) (by simp)).mono ?_
        rintro e w8 ⟨rfl, own8, tr8, a8⟩
        have hc := twice_cut1 HZ.out
        unfold tx at hc
        rw [hc.2] at a8
        rw [hc.1]
        have T8 := Lib.hid (T7.out.cut tr8 a8)
        clear T7 tr8 a8 hc
        have c_bq0 := T8.out.bq.blk.cell 0
        have l_bq := T8.out.bq.blk.lt
        have c_bi0 := T8.out.bi.blk.cell 0
        have c_bi1 := T8.out.bi.blk.cell 1
        have l_bi := T8.out.bi.blk.lt
        have c_bx0 := T8.out.bx.blk.cell 0
        have c_bx1 := T8.out.bx.blk.cell 1
        have l_bx := T8.out.bx.blk.lt
        have c_by0 := T8.out.by'.blk.cell 0
        have c_by1 := T8.out.by'.blk.cell 1
        have l_by := T8.out.by'.blk.lt
        simp only [List.getElem?_toArray, List.getElem?_cons_zero, List.getElem?_cons_succ] at c_bq0 c_bi0 c_bi1 c_bx0 c_bx1 c_by0 c_by1
        go_wp2_with fail
        clear c_bq0 c_bi0 c_bi1 c_bx0 c_bx1 c_by0 c_by1 l_bq l_bi l_bx l_by
        refine (sdelete_c w8 own8 1 q FI PS [((z1, z2), (901, 1099511627776))] z1 z2 902 1099511627776 T8.out.sh T8.out.clean.fresh (by decide) (by simp)).mono ?_
        rintro e w9 ⟨rfl, own9, tr9, a9⟩
        have hc := twice_cut2 HZ.out
        unfold tx ty at hc
        rw [hc.2] at a9
        rw [hc.1]
        have T9 := Lib.hid (T8.out.cut tr9 a9)
        clear T8 tr9 a9 hc
        have c_bq0 := T9.out.bq.blk.cell 0
        have l_bq := T9.out.bq.blk.lt
        have c_bi0 := T9.out.bi.blk.cell 0
        have c_bi1 := T9.out.bi.blk.cell 1
        have l_bi := T9.out.bi.blk.lt
        have c_bx0 := T9.out.bx.blk.cell 0
        have c_bx1 := T9.out.bx.blk.cell 1
        have l_bx := T9.out.bx.blk.lt
        have c_by0 := T9.out.by'.blk.cell 0
        have c_by1 := T9.out.by'.blk.cell 1
        have l_by := T9.out.by'.blk.lt
        simp only [List.getElem?_toArray, List.getElem?_cons_zero, List.getElem?_cons_succ] at c_bq0 c_bi0 c_bi1 c_bx0 c_bx1 c_by0 c_by1
        go_wp2_with fail
        clear c_bq0 c_bi0 c_bi1 c_bx0 c_bx1 c_by0 c_by1 l_bq l_bi l_bx l_by
        refine (sdelete_c w9 own9 1 q FI PS [((z1, z2), (901, 1099511627776)), ((z1, z2), (902, 1099511627776))] z1 z2 902 1099511627776 T9.out.sh T9.out.clean.fresh (by decide) (by simp)).mono ?_
        rintro e w10 ⟨rfl, own10, tr10, a10⟩
        have hc := twice_cut3 HZ.out
        unfold tx ty at hc
        rw [hc.2] at a10
        rw [hc.1]
        have T10 := Lib.hid (T9.out.cut tr10 a10)
        clear T9 tr10 a10 hc
        have c_bq0 := T10.out.bq.blk.cell 0
        have l_bq := T10.out.bq.blk.lt
        have c_bi0 := T10.out.bi.blk.cell 0
        have c_bi1 := T10.out.bi.blk.cell 1
        have l_bi := T10.out.bi.blk.lt
        have c_bx0 := T10.out.bx.blk.cell 0
        have c_bx1 := T10.out.bx.blk.cell 1
        have l_bx := T10.out.bx.blk.lt
        have c_by0 := T10.out.by'.blk.cell 0
        have c_by1 := T10.out.by'.blk.cell 1
        have l_by := T10.out.by'.blk.lt
        simp only [List.getElem?_toArray, List.getElem?_cons_zero, List.getElem?_cons_succ] at c_bq0 c_bi0 c_bi1 c_bx0 c_bx1 c_by0 c_by1
        go_wp2_with fail
        clear c_bq0 c_bi0 c_bi1 c_bx0 c_bx1 c_by0 c_by1 l_bq l_bi l_bx l_by
        refine (allq_c w10 own10 1 3 q FI PS _ T10.out.sh T10.out.clean.fresh (by decide) (by decide)).mono ?_
        rintro e w11 ⟨v11, own11, rfl, tr11, row11⟩
        rw [HOL.out] at row11
        obtain ⟨AV, cV, rfl, _⟩ := row11.form
        have T11 := Lib.hid (T10.out.other tr11)
        have R11 := Lib.hid row11
        clear T10 tr11 row11
        go_wp2_with fail
        refine (same28_c _ _ OL.length OL.length _ _ OL OL w11 own11 own11 3 2 R11.out.toIdsR.2 T11.out.rW.toIdsR.2 rfl rfl (by omega)).mono ?_
        rintro e w12 ⟨rfl, hB⟩
        rw [decide_eq_true rfl]
        have T12 := Lib.hid (T11.out.next hB)
        clear T11 R11 hB
        have c_bq0 := T12.out.bq.blk.cell 0
        have l_bq := T12.out.bq.blk.lt
        have c_bi0 := T12.out.bi.blk.cell 0
        have c_bi1 := T12.out.bi.blk.cell 1
        have l_bi := T12.out.bi.blk.lt
        have c_bx0 := T12.out.bx.blk.cell 0
        have c_bx1 := T12.out.bx.blk.cell 1
        have l_bx := T12.out.bx.blk.lt
        have c_by0 := T12.out.by'.blk.cell 0
        have c_by1 := T12.out.by'.blk.cell 1
        have l_by := T12.out.by'.blk.lt
        simp only [List.getElem?_toArray, List.getElem?_cons_zero, List.getElem?_cons_succ] at c_bq0 c_bi0 c_bi1 c_bx0 c_bx1 c_by0 c_by1
        have hpl := twice_plain (z := (z1, z2)) HW.out (by unfold tx; exact HHX.out) (by unfold ty; exact HHY.out) (by rw [HOL.out]; exact HYM.out)
        unfold tx ty at hpl
        have HPL := Lib.hid hpl
        clear hpl
        have hdn := Lib.hid (fun (W : World) (hs : ShAt W own11 1 q FI PS [((z1, z2), (901, 1099511627776)), ((z1, z2), (902, 1099511627776))]) A n c gl hA hl hn hq hi => dead57_c W own11 1 q FI PS [((z1, z2), (901, 1099511627776)), ((z1, z2), (902, 1099511627776))] hs (by simp) A n c gl hA hl hn Bq Bi z1 z2 hq hi)
        have hlv := Lib.hid (fun (W : World) (hs : ShAt W own11 1 q FI PS [((z1, z2), (901, 1099511627776)), ((z1, z2), (902, 1099511627776))]) A n c gl hA hl hn => live56_c W own11 1 q FI PS [((z1, z2), (901, 1099511627776)), ((z1, z2), (902, 1099511627776))] hs (by simp) A n c gl hA hl hn)
        rw [HOL.out] at HPL hdn hlv
        go_wp2_with fail
        clear c_bq0 c_bi0 c_bi1 c_bx0 c_bx1 c_by0 c_by1 l_bq l_bi l_bx l_by
        refine (hdn.out w12 T12.out.sh none 0 0 [] (ids_none _) rfl (by omega) T12.out.bq.blk T12.out.bi.blk).mono ?_
        rintro e w13 ⟨rfl, hB⟩
        rw [decide_eq_false HPL.out.1]
        have T13 := Lib.hid (T12.out.next hB)
        clear T12 hB
        have bl : Below w13.heap.size w13 (w13.alloc (.cells #[.int .i64 901, .int .i64 1099511627776] 24)) := (Below.refl _ _).alloc (Nat.le_refl _) _
        have T14 := Lib.hid (T13.out.next bl)
        have I14 := Lib.hid (ids_one (Blk.new w13 24 #[.int .i64 901, .int .i64 1099511627776]))
        clear bl
        have c_bq0 := T13.out.bq.blk.cell 0
        have l_bq := T13.out.bq.blk.lt
        have c_bi0 := T13.out.bi.blk.cell 0
        have c_bi1 := T13.out.bi.blk.cell 1
        have l_bi := T13.out.bi.blk.lt
        have c_bx0 := T13.out.bx.blk.cell 0
        have c_bx1 := T13.out.bx.blk.cell 1
        have l_bx := T13.out.bx.blk.lt
        have c_by0 := T13.out.by'.blk.cell 0
        have c_by1 := T13.out.by'.blk.cell 1
        have l_by := T13.out.by'.blk.lt
        simp only [List.getElem?_toArray, List.getElem?_cons_zero, List.getElem?_cons_succ] at c_bq0 c_bi0 c_bi1 c_bx0 c_bx1 c_by0 c_by1
        go_wp2_with fail
        clear c_bq0 c_bi0 c_bi1 c_bx0 c_bx1 c_by0 c_by1 l_bq l_bi l_bx l_by
        clear T13
        refine (hdn.out _ T14.out.sh (some ⟨w13.heap.size, 0, none⟩) 1 1 [(901, 1099511627776)] I14.out rfl (by omega) T14.out.bq.blk T14.out.bi.blk).mono ?_
        rintro e w15 ⟨rfl, hB⟩
        rw [decide_eq_false HPL.out.2.1]
        have T15 := Lib.hid (T14.out.next hB)
        clear T14 hB I14
        have bl : Below w15.heap.size w15 (w15.alloc (.cells #[.int .i64 902, .int .i64 1099511627776] 24)) := (Below.refl _ _).alloc (Nat.le_refl _) _
        have T16 := Lib.hid (T15.out.next bl)
        have I16 := Lib.hid (ids_one (Blk.new w15 24 #[.int .i64 902, .int .i64 1099511627776]))
        clear bl
        have c_bq0 := T15.out.bq.blk.cell 0
        have l_bq := T15.out.bq.blk.lt
        have c_bi0 := T15.out.bi.blk.cell 0
        have c_bi1 := T15.out.bi.blk.cell 1
        have l_bi := T15.out.bi.blk.lt
        have c_bx0 := T15.out.bx.blk.cell 0
        have c_bx1 := T15.out.bx.blk.cell 1
        have l_bx := T15.out.bx.blk.lt
        have c_by0 := T15.out.by'.blk.cell 0
        have c_by1 := T15.out.by'.blk.cell 1
        have l_by := T15.out.by'.blk.lt
        simp only [List.getElem?_toArray, List.getElem?_cons_zero, List.getElem?_cons_succ] at c_bq0 c_bi0 c_bi1 c_bx0 c_bx1 c_by0 c_by1
        go_wp2_with fail
        clear c_bq0 c_bi0 c_bi1 c_bx0 c_bx1 c_by0 c_by1 l_bq l_bi l_bx l_by
        clear T15
        refine (hdn.out _ T16.out.sh (some ⟨w15.heap.size, 0, none⟩) 1 1 [(902, 1099511627776)] I16.out rfl (by omega) T16.out.bq.blk T16.out.bi.blk).mono ?_
        rintro e w17 ⟨rfl, hB⟩
        rw [decide_eq_false HPL.out.2.2.1]
        have T17 := Lib.hid (T16.out.next hB)
        clear T16 hB I16
        have bl : Below w17.heap.size w17 (w17.alloc (.cells #[.int .i64 901, .int .i64 1099511627776, .int .i64 902, .int .i64 1099511627776] 24)) := (Below.refl _ _).alloc (Nat.le_refl _) _
        have T18 := Lib.hid (T17.out.next bl)
        have I18 := Lib.hid (ids_two (Blk.new w17 24 #[.int .i64 901, .int .i64 1099511627776, .int .i64 902, .int .i64 1099511627776]))
        clear bl
        have c_bq0 := T17.out.bq.blk.cell 0
        have l_bq := T17.out.bq.blk.lt
        have c_bi0 := T17.out.bi.blk.cell 0
        have c_bi1 := T17.out.bi.blk.cell 1
        have l_bi := T17.out.bi.blk.lt
        have c_bx0 := T17.out.bx.blk.cell 0
        have c_bx1 := T17.out.bx.blk.cell 1
        have l_bx := T17.out.bx.blk.lt
        have c_by0 := T17.out.by'.blk.cell 0
        have c_by1 := T17.out.by'.blk.cell 1
        have l_by := T17.out.by'.blk.lt
        simp only [List.getElem?_toArray, List.getElem?_cons_zero, List.getElem?_cons_succ] at c_bq0 c_bi0 c_bi1 c_bx0 c_bx1 c_by0 c_by1
        go_wp2_with fail
        clear c_bq0 c_bi0 c_bi1 c_bx0 c_bx1 c_by0 c_by1 l_bq l_bi l_bx l_by
        clear T17
        refine (hdn.out _ T18.out.sh (some ⟨w17.heap.size, 0, none⟩) 2 2 [(901, 1099511627776), (902, 1099511627776)] I18.out rfl (by omega) T18.out.bq.blk T18.out.bi.blk).mono ?_
        rintro e w19 ⟨rfl, hB⟩
        rw [decide_eq_true HPL.out.2.2.2.1]
        have T19 := Lib.hid (T18.out.next hB)
        clear T18 hB I18
        have c_bq0 := T19.out.bq.blk.cell 0
        have l_bq := T19.out.bq.blk.lt
        have c_bi0 := T19.out.bi.blk.cell 0
        have c_bi1 := T19.out.bi.blk.cell 1
        have l_bi := T19.out.bi.blk.lt
        have c_bx0 := T19.out.bx.blk.cell 0
        have c_bx1 := T19.out.bx.blk.cell 1
        have l_bx := T19.out.bx.blk.lt
        have c_by0 := T19.out.by'.blk.cell 0
        have c_by1 := T19.out.by'.blk.cell 1
        have l_by := T19.out.by'.blk.lt
        simp only [List.getElem?_toArray, List.getElem?_cons_zero, List.getElem?_cons_succ] at c_bq0 c_bi0 c_bi1 c_bx0 c_bx1 c_by0 c_by1
        go_wp2_with fail
        clear c_bq0 c_bi0 c_bi1 c_bx0 c_bx1 c_by0 c_by1 l_bq l_bi l_bx l_by
        refine (hlv.out w19 T19.out.sh none 0 0 [] (ids_none _) rfl (by omega)).mono ?_
        rintro e w20 ⟨A20, c20, rfl, hB, _⟩
        have T20 := Lib.hid (T19.out.next hB)
        clear T19 hB
        have hll := HPL.out.2.2.2.2.1
        have bl : Below w20.heap.size w20 (w20.alloc (.cells #[.int .i64 901, .int .i64 1099511627776, .int .i64 902, .int .i64 1099511627776] 24)) := (Below.refl _ _).alloc (Nat.le_refl _) _
        have T21 := Lib.hid (T20.out.next bl)
        have I21 := Lib.hid (ids_two (Blk.new w20 24 #[.int .i64 901, .int .i64 1099511627776, .int .i64 902, .int .i64 1099511627776]))
        clear bl
        have c_bq0 := T20.out.bq.blk.cell 0
        have l_bq := T20.out.bq.blk.lt
        have c_bi0 := T20.out.bi.blk.cell 0
        have c_bi1 := T20.out.bi.blk.cell 1
        have l_bi := T20.out.bi.blk.lt
        have c_bx0 := T20.out.bx.blk.cell 0
        have c_bx1 := T20.out.bx.blk.cell 1
        have l_bx := T20.out.bx.blk.lt
        have c_by0 := T20.out.by'.blk.cell 0
        have c_by1 := T20.out.by'.blk.cell 1
        have l_by := T20.out.by'.blk.lt
        simp only [List.getElem?_toArray, List.getElem?_cons_zero, List.getElem?_cons_succ] at c_bq0 c_bi0 c_bi1 c_bx0 c_bx1 c_by0 c_by1
        go_wp2_with fail
        clear c_bq0 c_bi0 c_bi1 c_bx0 c_bx1 c_by0 c_by1 l_bq l_bi l_bx l_by
        clear T20
        refine (hlv.out _ T21.out.sh (some ⟨w20.heap.size, 0, none⟩) 2 2 [(901, 1099511627776), (902, 1099511627776)] I21.out rfl (by omega)).mono ?_
        rintro e w22 ⟨A22, c22, rfl, hB, hI⟩
        rw [HPL.out.2.2.2.2.2] at hI ⊢
        have T22 := Lib.hid (T21.out.next hB)
        have I22 := Lib.hid hI
        clear T21 hB I21 hI
        go_wp2_with fail
        refine (same28_c _ _ OL.length OL.length _ _ OL OL w22 (fun _ => 0) own11 0 2 I22.out T22.out.rW.toIdsR.2 rfl rfl (by omega)).mono ?_
        rintro e w23 ⟨rfl, hB⟩
        rw [decide_eq_true rfl]
        have T23 := Lib.hid (T22.out.next hB)
        clear T22 hB I22
        go_wp2_with fail
        go_ret
        exact ⟨rfl, T23.out.clean.below⟩
      · go_wp2_with fail
        refine (shas_c w7 own4 1 q FI PS [] 901 1099511627776 T7.out.sh).mono ?_
        rintro e w8 ⟨rfl, hB⟩
        rw [HHX.out]
        clear c_bq0 c_bi0 c_bi1 c_bx0 c_bx1 c_by0 c_by1 l_bq l_bi l_bx l_by
        have T8 := Lib.hid (T7.out.next hB)
        clear T7 hB
        have c_bq0 := T8.out.bq.blk.cell 0
        have l_bq := T8.out.bq.blk.lt
        have c_bi0 := T8.out.bi.blk.cell 0
        have c_bi1 := T8.out.bi.blk.cell 1
        have l_bi := T8.out.bi.blk.lt
        have c_bx0 := T8.out.bx.blk.cell 0
        have c_bx1 := T8.out.bx.blk.cell 1
        have l_bx := T8.out.bx.blk.lt
        have c_by0 := T8.out.by'.blk.cell 0
        have c_by1 := T8.out.by'.blk.cell 1
        have l_by := T8.out.by'.blk.lt
        simp only [List.getElem?_toArray, List.getElem?_cons_zero, List.getElem?_cons_succ] at c_bq0 c_bi0 c_bi1 c_bx0 c_bx1 c_by0 c_by1
        go_wp2_with fail
        refine (shas_c w8 own4 1 q FI PS [] 902 1099511627776 T8.out.sh).mono ?_
        rintro e w9 ⟨rfl, hB⟩
        rw [HHY.out]
        have T9 := Lib.hid (T8.out.next hB)
        clear c_bq0 c_bi0 c_bi1 c_bx0 c_bx1 c_by0 c_by1 l_bq l_bi l_bx l_by
        clear T8 hB
        go_wp2_with fail
        go_ret
        exact ⟨rfl, T9.out.clean.below⟩
    · go_wp2_with fail
      clear c_bq0 c_bi0 c_bi1 c_bx0 c_bx1 c_by0 c_by1 l_bq l_bi l_bx l_by
      refine (shas_c w6 own4 1 q FI PS [] 901 1099511627776 T6.out.sh).mono ?_
      rintro e w7 ⟨rfl, hB⟩
      rw [HHX.out]
      have T7 := Lib.hid (T6.out.next hB)
      clear T6 hB
      go_wp2_with fail
      go_ret
      exact ⟨rfl, T7.out.clean.below⟩

set_option maxRecDepth 100000 in
set_option maxHeartbeats 4000000 in
theorem twice_many (A D : Option Addr) (n c m d u : Nat) (w : World) (h : 12 < n ∨ 12 < m) :
    Calls Try.prog 15 #[.slice A n c, .slice D m d, .int .u8 u] w fun e w' => e = .returned (.bool true) ∧ Below w.heap.size w w' := by
  go_enter Try.func15, Try.ntmps15
  go_wp2_with fail
  refine (awake24_c _).mono ?_
  rintro e w1 ⟨rfl, hB⟩
  have K1 := Lib.hid ((Clean.start w).next hB)
  clear hB
  by_cases h1 : 12 < n
  · have h2 : (12 : Int) < (n : Int) := by omega
    clear h h1
    go_wp2_with fail
    refine (awake24_c _).mono ?_
    rintro e w2 ⟨rfl, hB⟩
    have K2 := Lib.hid (K1.out.next hB)
    clear K1 hB
    go_wp2_with fail
    go_ret
    exact ⟨rfl, K2.out.below⟩
  · have h2 : ¬ (12 : Int) < (n : Int) := by omega
    have h3 : (12 : Int) < (m : Int) := by omega
    clear h h1
    go_wp2_with fail
    refine (awake24_c _).mono ?_
    rintro e w2 ⟨rfl, hB⟩
    have K2 := Lib.hid (K1.out.next hB)
    clear K1 hB
    go_wp2_with fail
    go_ret
    exact ⟨rfl, K2.out.below⟩
theorem twice_any (A D : Option Addr) (n c m d : Nat) (ids0 : List Id) (ps : List (Id × Id)) (u : Nat) (w : World) (hR : IdsR w (fun _ => 0) 0 A ids0) (hn : ids0.length = n) (hD : ManyR putOf 4 w (fun _ => 0) 0 D ps) (hm : ps.length = m) (hu : u < 256) :
    Calls Try.prog 15 #[.slice A n c, .slice D m d, .int .u8 u] w fun e w' => e = .returned (.bool true) ∧ Below w.heap.size w w' := by
  by_cases h1 : n ≤ 12
  · by_cases h2 : m ≤ 12
    · exact twice_few A D n c m d ids0 ps u w hR hn hD hm h1 h2 hu
    · exact twice_many A D n c m d u w (.inr (by omega))
  · exact twice_many A D n c m d u w (.inl (by omega))
end Go.Proofs.Ytgmlhpkhecbkoaa
