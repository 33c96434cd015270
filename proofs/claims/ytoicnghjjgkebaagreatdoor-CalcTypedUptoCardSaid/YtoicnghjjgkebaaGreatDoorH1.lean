/-
  (*Axis).forget, turn, Delete, Revive, Len, Has, At, Place. Condition: the axis lies in memory as AxisAt says.
  (*Axis).Len, At, Place. Condition: the axis lies in memory as AxisAt says.
  axis.New. Condition: the ids can be read, and lie in no block of the tag t.
  slices.Clone at ids, (*Axis).Between, counterpaneref03.Same. Conditions: slices that can be read; the axis lies in memory as AxisAt says.
  Inside a round of a loop over a function: what holds of an operation, a list, a region outside holds there too, where no call is deferred. No condition.
  (*Axis).All: what it hands back; its closure, for every loop body that leaves foreign blocks alone. Condition: the axis lies in memory as AxisAt says.
  (*Axis).All's closure: its contract. Condition: the axis lies in memory as AxisAt says.
  A range over a function that writes blocks of its own: the law, where what the loop relies on lies in blocks that were there ahead of it. No condition.
-/
import Derived.Test.YtoicnghjjgkebaaGreatDoorC3
import Derived.RangeFuncNested
import Derived.RangeFuncBound
import Derived.RangeFuncCalls
import Derived.RangeFuncLeaves
import Derived.Shelf.Abstract
import Derived.OwnWalkIn
import Derived.TacticsInMore
import Derived.LoopNIn
import Derived.LoopIn
import Derived.OrdersIn
import Derived.Stop.RegionWithIn
set_option linter.unusedSectionVars false
set_option linter.unusedSimpArgs false
set_option linter.unusedVariables false
set_option linter.unnecessarySimpa false
namespace Go.Proofs.YtoicnghjjgkebaaGreatDoor
open Go.RowKit




theorem AxisAt.exI {w : World} {own : Tags} {t p : Nat} {ids : List Id} {live : List Bool} (h : AxisAt w own t p ids live) : ∃ vI vL vS vA vV, AxisIs w own t p ids live vI vL vS vA vV := by
  rcases h.is with ⟨vI, vL, s, g, vV, a, _⟩ | ⟨vI, vL, a⟩
  · exact ⟨_, _, _, _, _, a⟩
  · exact ⟨_, _, _, _, _, a⟩


theorem Row.boolAt {w : World} {own : Tags} {t : Nat} {e : TypeId} {v : Value} {live : List Bool} (h : Row w own t e 1 v live.length (boolCells live)) {i : Nat} {b : Bool} (hi : live[i]? = some b) :
    ∃ bL offL c, v = .slice (some ⟨bL, offL, none⟩) live.length c ∧ bL < w.heap.size ∧ own bL = t ∧ w.cell? ⟨bL, offL + i, none⟩ = some (.bool b) := by
  obtain ⟨hl, hb⟩ := List.getElem?_eq_some_iff.1 hi
  obtain ⟨A, c, rfl, _⟩ := h.form
  have hne : boolCells live ≠ [] := fun e => by
    have h0 : live.length = 0 := by simpa [boolCells] using congrArg List.length e
    omega
  obtain ⟨bL, offL, rfl, ho, hbL, hc⟩ := h.toOnesR.2 hne
  have g := hc i (by simpa [boolCells] using hl)
  simp only [boolCells, List.getElem_map, hb] at g
  exact ⟨bL, offL, c, rfl, hbL, ho, g⟩

end Go.Proofs.YtoicnghjjgkebaaGreatDoor
namespace Go.Proofs.YtoicnghjjgkebaaGreatDoor
open Go.RowKit

/-- The same, and the axis is ready. -/
def RP (w : World) (own : Tags) (t p : Nat) (ids : List Id) (live : List Bool) (v : Value) (e : Ending) (w' : World) : Prop :=
  e = .returned v ∧ ∃ own', Tr own t w own' w' ∧ AxisAt w' own' t p ids live ∧ Ready w' own' t p ids live
theorem Ready.at_ {w : World} {own own' : Tags} {w' : World} {t p : Nat} {ids : List Id} {live : List Bool} (h : AxisAt w own t p ids live) (r : Ready w' own' t p ids live) : AxisAt w' own' t p ids live :=
  ⟨h.len, h.le, h.nodup, h.nz, .inl r⟩

set_option maxRecDepth 100000 in
set_option maxHeartbeats 1000000 in
theorem len_c (w : World) (own : Tags) (t p : Nat) (ids : List Id) (live : List Bool) (h : AxisAt w own t p ids live) :
    Calls Tryz.prog 63 #[.pointer (some ⟨p, 0, none⟩)] w (RP w own t p ids live (.int .i64 ((aliveOf ids live).length : Int))) := by
  have hr := Lib.hid (ready_c w own t p ids live h)
  have H := Lib.hid h
  clear h
  go_enter Tryz.func63, Tryz.ntmps63
  go_wp2_with fail
  refine hr.out.mono ?_
  rintro e w1 ⟨rfl, own1, tr1, r1⟩
  obtain ⟨vI, vL, s, g, vV, a, m⟩ := id r1
  obtain ⟨A, c, rfl, _⟩ := m.rV.form
  have c4 := a.blk.cell 4
  simp at c4
  have HT := Lib.hid tr1
  have HR := Lib.hid r1
  clear a m tr1 r1
  go_wp2
  go_ret
  exact ⟨rfl, own1, HT.out, HR.out.at_ H.out, HR.out⟩









end Go.Proofs.YtoicnghjjgkebaaGreatDoor
namespace Go.Proofs.YtoicnghjjgkebaaGreatDoor
open Go.RowKit

section
variable {w0 w w1 : World} {own0 own own2 : Tags} {t : Nat} {e e2 : TypeId} {size size2 : Nat} {v v' v2 : Value} {n n' n2 : Nat} {xs ys xs2 : List Value}
theorem Row.app (tr : Tr own0 t w0 own w) (h : Row w own t e size v n xs) (hg : w.grownBy w1 v.ownBlock) (hr : w1.ownsRow 0 e size v' n' ys)
    (hat : v'.ownBlock = v.ownBlock ∨ (v'.ownBlock = some w.heap.size ∧ w.heap.size < w1.heap.size)) :
    ∃ own2, Tr own0 t w0 own2 w1 ∧ (∀ k, k < w.heap.size → own2 k = own k) ∧ Row w1 own2 t e size v' n' ys := by
  have tr1 : Tr own0 t w0 own w1 := tr.grown hg (fun k e => .inl (h.2 k e))
  rcases hat with hat | ⟨hat, hlt⟩
  · exact ⟨own, tr1, fun _ _ => rfl, hr, fun k hk => h.2 k (hat ▸ hk)⟩
  · refine ⟨tagAt own w.heap.size t, tr1.tag tr.size hlt t, fun k hk => by unfold tagAt; rw [if_neg (by omega)], hr, fun k hk => ?_⟩
    rw [hat] at hk
    cases hk
    simp [tagAt]
theorem Blk.beside {q : Nat} {cs : Array Value} (h : Blk w q e2 cs) (hv : Row w own t e size v n xs) (hg : w.grownBy w1 v.ownBlock) (hne : e2 ≠ e) : Blk w1 q e2 cs :=
  h.kept (hg.block q h.lt (fun ev => by
    obtain ⟨cs', hb⟩ := hv.blk ev.symm
    exact h.ne_type hb hne rfl))
theorem MapIs.beside {s : Nat} {l : List (Id × Value)} (h : MapIs w s l) (hv : Row w own t e size v n xs) (hg : w.grownBy w1 v.ownBlock) : MapIs w1 s l :=
  h.kept (hg.block s h.lt (fun ev => by
    obtain ⟨cs', hb⟩ := hv.blk ev.symm
    exact hb.ne_map h rfl))
theorem Row.beside (h : Row w own t e2 size2 v2 n2 xs2) (hv : Row w own t e size v n xs) (hg : w.grownBy w1 v.ownBlock) (hs : ∀ k, k < w.heap.size → own2 k = own k) (hne : e2 ≠ e) : Row w1 own2 t e2 size2 v2 n2 xs2 :=
  h.kept fun k hlt hk ho => by
    obtain ⟨cs', hb⟩ := h.blk hk
    refine ⟨hg.block k hlt (fun ev => ?_), by rw [hs k hlt]; exact ho⟩
    obtain ⟨cs2, hb2⟩ := hv.blk ev.symm
    exact hb.ne_type hb2 hne rfl
end

def newStep (acc : List Id) (z : Id) : List Id := if acc.length = 1000 then acc else if z = (0, 0) ∨ z ∈ acc then acc else acc ++ [z]
def newL (ids : List Id) : List Id := ids.foldl newStep []
theorem newStep_good (acc : List Id) (z : Id) (h : acc.Nodup ∧ (0, 0) ∉ acc ∧ acc.length ≤ 1000) : (newStep acc z).Nodup ∧ (0, 0) ∉ newStep acc z ∧ (newStep acc z).length ≤ 1000 := by
  unfold newStep
  split
  · exact h
  · split
    · exact h
    · rename_i h1 h2
      refine ⟨?_, ?_, by simp; omega⟩
      · rw [List.nodup_append]
        exact ⟨h.1, by simp, fun a ha b hb e => by simp at hb; subst hb; subst e; exact h2 (.inr ha)⟩
      · simp only [List.mem_append, List.mem_singleton]
        rintro (h3 | h3)
        · exact h.2.1 h3
        · exact h2 (.inl h3.symm)
theorem foldl_good (ids acc : List Id) (h : acc.Nodup ∧ (0, 0) ∉ acc ∧ acc.length ≤ 1000) : (ids.foldl newStep acc).Nodup ∧ (0, 0) ∉ ids.foldl newStep acc ∧ (ids.foldl newStep acc).length ≤ 1000 := by
  induction ids generalizing acc with
  | nil => exact h
  | cons z r ih => exact ih _ (newStep_good acc z h)
theorem newL_good (ids : List Id) : (newL ids).Nodup ∧ (0, 0) ∉ newL ids ∧ (newL ids).length ≤ 1000 := foldl_good ids [] (by simp)
theorem foldl_full (ids acc : List Id) (h : acc.length = 1000) : ids.foldl newStep acc = acc := by
  induction ids with
  | nil => rfl
  | cons z r ih => simp only [List.foldl_cons, newStep, if_pos h]; exact ih
def newAt (ids : List Id) (k : Nat) : List Id := (ids.take k).foldl newStep []
theorem newAt_succ (ids : List Id) (k : Nat) (hk : k < ids.length) : newAt ids (k + 1) = newStep (newAt ids k) ids[k] := by
  unfold newAt; rw [List.take_succ_eq_append_getElem hk, List.foldl_append]; rfl
theorem newAt_full (ids : List Id) (k : Nat) (h : (newAt ids k).length = 1000) : newAt ids k = newL ids := by
  unfold newL
  conv => rhs; rw [← List.take_append_drop k ids, List.foldl_append]
  exact (foldl_full _ _ h).symm
theorem newAt_good (ids : List Id) (k : Nat) : (newAt ids k).Nodup ∧ (0, 0) ∉ newAt ids k ∧ (newAt ids k).length ≤ 1000 := foldl_good _ [] (by simp)
def cameOf (l : List Id) : List (Id × Value) := l.map fun z => (z, .bool true)
theorem getKV_came (k : Id) (l : List Id) : getKV k (cameOf l) = if k ∈ l then some (.bool true) else none := by
  induction l with
  | nil => simp [cameOf, getKV]
  | cons z r ih =>
    simp only [cameOf, List.map_cons, getKV] at ih ⊢
    by_cases hz : z = k
    · subst hz; simp
    · rw [if_neg hz, ih]; simp only [List.mem_cons, show k ≠ z from fun e => hz e.symm, false_or]
theorem put_came (k : Id) (l : List Id) (h : k ∉ l) : putKV k (.bool true) (cameOf l) = cameOf (l ++ [k]) := by
  rw [putKV_new _ _ _ (by rw [getKV_came, if_neg h])]; simp [cameOf]

theorem news_new (W : World) (N : Nat) (hN : W.heap.size = N) (cs : Array Value) (e : TypeId) : ∀ j u, cs.toList[j]? = some u → (W.alloc (.cells cs e)).cell? ((⟨N, 0, none⟩ : Addr).add j) = some u := by
  subst hN; exact World.news_of_block (heap_alloc_new W _)
theorem lies_at {v : Value} {g n c H N M : Nat} (hat : v.ownBlock = some g ∨ g = H) (hlt : g < M) (hH : H = N) :
    (Value.slice (some ⟨g, 0, none⟩) n c).ownBlock = v.ownBlock ∨ ((Value.slice (some ⟨g, 0, none⟩) n c).ownBlock = some N ∧ N < M) := by
  subst hH
  rcases hat with hat | hat
  · exact .inl hat.symm
  · subst hat; exact .inr ⟨rfl, hlt⟩
/-- What the loop of New keeps. -/
structure NR (w : World) (own : Tags) (t q m : Nat) (aM aI : List Id) (nL : Nat) (own1 : Tags) (vI vL : Value) (wr : World) : Prop where
  tr : Tr own t w own1 wr
  tag : own1 q = t
  blk : Blk wr q 219 #[vI, vL, .map none, .slice none 0 0, .slice none 0 0]
  rI : Row wr own1 t 27 2 vI aI.length (idCells aI)
  rL : Row wr own1 t 4 1 vL nL (boolCells (List.replicate nL true))
  map : MapIs wr m (cameOf aM)
  new : w.heap.size ≤ m
section
variable {w : World} {own : Tags} {t q m : Nat} {aM aI : List Id} {nL : Nat} {own1 : Tags} {vI vL : Value} {wr w1 : World}
theorem NR.below (r : NR w own t q m aM aI nL own1 vI vL wr) (hb : Below wr.heap.size wr w1) : NR w own t q m aM aI nL own1 vI vL w1 :=
  ⟨r.tr.below hb, r.tag, r.blk.kept (hb.block q r.blk.lt), r.rI.keep (Same.below hb), r.rL.keep (Same.below hb), r.map.kept (hb.block m r.map.lt), r.new⟩
theorem NR.alloc (r : NR w own t q m aM aI nL own1 vI vL wr) (o : Obj) : NR w own t q m aM aI nL own1 vI vL (wr.alloc o) := r.below ((Below.refl _ _).alloc (Nat.le_refl _) o)
theorem NR.drew (r : NR w own t q m aM aI nL own1 vI vL wr) : NR w own t q m aM aI nL own1 vI vL wr.drew := r.below ((Below.refl _ _).drew)
theorem NR.put {aM' : List Id} (r : NR w own t q m aM aI nL own1 vI vL wr) (hg : wr.grownBy w1 (some m)) (hm : MapIs w1 m (cameOf aM')) : NR w own t q m aM' aI nL own1 vI vL w1 := by
  have ne : ∀ {g e cs}, Blk wr g e cs → g ≠ m := fun h => h.ne_map r.map
  exact ⟨r.tr.grown hg (fun k e => .inr (by cases e; exact r.new)), r.tag, r.blk.kept (hg.block q r.blk.lt (fun e => ne r.blk (by injection e))), r.rI.grown hg (fun _ _ h => ne h), r.rL.grown hg (fun _ _ h => ne h), hm, r.new⟩
theorem NR.ids {aI' : List Id} {vI' : Value} (r : NR w own t q m aM aI nL own1 vI vL wr) (hg : wr.grownBy w1 vI.ownBlock) (hr : w1.ownsRow 0 27 2 vI' aI'.length (idCells aI'))
    (hat : vI'.ownBlock = vI.ownBlock ∨ (vI'.ownBlock = some wr.heap.size ∧ wr.heap.size < w1.heap.size)) :
    Blk w1 q 219 #[vI, vL, .map none, .slice none 0 0, .slice none 0 0] ∧ ∃ own2, NR w own t q m aM aI' nL own2 vI' vL (w1.setCell ⟨q, 0, none⟩ vI') := by
  obtain ⟨own2, tr2, hs, r2⟩ := r.rI.app r.tr hg hr hat
  have b1 := r.blk.beside r.rI hg (by decide)
  have m1 := r.map.beside r.rI hg
  have tq : own2 q = t := by rw [hs q r.blk.lt]; exact r.tag
  exact ⟨b1, own2, tr2.setCell (.inl tq) _, tq, b1.store 0 vI', r2.stored _ (fun _ _ h _ => h.ne_type b1 (by decide)), (r.rL.beside r.rI hg hs (by decide)).stored _ (fun _ _ h _ => h.ne_type b1 (by decide)),
    m1.kept (Below.heap_setCell w1 _ _ m (fun e => b1.ne_map m1 e.symm)), r.new⟩
theorem NR.lives {nL' : Nat} {vL' : Value} (r : NR w own t q m aM aI nL own1 vI vL wr) (hg : wr.grownBy w1 vL.ownBlock) (hr : w1.ownsRow 0 4 1 vL' nL' (boolCells (List.replicate nL' true)))
    (hat : vL'.ownBlock = vL.ownBlock ∨ (vL'.ownBlock = some wr.heap.size ∧ wr.heap.size < w1.heap.size)) :
    Blk w1 q 219 #[vI, vL, .map none, .slice none 0 0, .slice none 0 0] ∧ ∃ own2, NR w own t q m aM aI nL' own2 vI vL' (w1.setCell ⟨q, 1, none⟩ vL') := by
  obtain ⟨own2, tr2, hs, r2⟩ := r.rL.app r.tr hg hr hat
  have b1 := r.blk.beside r.rL hg (by decide)
  have m1 := r.map.beside r.rL hg
  have tq : own2 q = t := by rw [hs q r.blk.lt]; exact r.tag
  exact ⟨b1, own2, tr2.setCell (.inl tq) _, tq, b1.store 1 vL', (r.rI.beside r.rL hg hs (by decide)).stored _ (fun _ _ h _ => h.ne_type b1 (by decide)), r2.stored _ (fun _ _ h _ => h.ne_type b1 (by decide)),
    m1.kept (Below.heap_setCell w1 _ _ m (fun e => b1.ne_map m1 e.symm)), r.new⟩
theorem NR.axis {ids : List Id} (r : NR w own t q m aM (newL ids) (newL ids).length own1 vI vL wr) : AxisAt wr own1 t q (newL ids) (List.replicate (newL ids).length true) := by
  obtain ⟨h1, h2, h3⟩ := newL_good ids
  exact ⟨by simp, h3, h1, h2, .inr ⟨vI, vL, r.tag, r.blk, r.rI, by simpa using r.rL⟩⟩
end

def NewP (w : World) (own : Tags) (t : Nat) (l : List Id) (e : Ending) (w' : World) : Prop :=
  ∃ own' q, e = .returned (.pointer (some ⟨q, 0, none⟩)) ∧ Tr own t w own' w' ∧ w.heap.size ≤ q ∧ AxisAt w' own' t q l (List.replicate l.length true)

theorem NR.done {w : World} {own : Tags} {t : Nat} {ids acc aM : List Id} {m : Nat} {own1 : Tags} {vI vL : Value} {wr : World} (r : NR w own t w.heap.size m aM acc acc.length own1 vI vL wr) (e : acc = newL ids) :
    NewP w own t (newL ids) (.returned (.pointer (some ⟨w.heap.size, 0, none⟩))) wr := by
  subst e
  exact ⟨own1, _, rfl, r.tr, Nat.le_refl _, r.axis⟩

set_option maxRecDepth 100000 in
set_option maxHeartbeats 2000000 in
theorem new_c (A : Option Addr) (n c : Nat) (ids : List Id) (w : World) (own : Tags) (s t : Nat) (hR : IdsR w own s A ids) (hn : ids.length = n) (hm : n ≤ maxLen) (hst : s ≠ t) :
    Calls Tryz.prog 53 #[.slice A n c] w (NewP w own t (newL ids)) := by
  unfold maxLen at hm
  have Hn := Lib.hid hn
  have HR := Lib.hid hR
  have Hst := Lib.hid hst
  clear hn hR hst
  go_enter Tryz.func53, Tryz.ntmps53
  go_wp2
  have hstart : NR w own t w.heap.size (w.heap.size + 1) (newAt ids 0) (newAt ids 0) (newAt ids 0).length (tagAt own w.heap.size t) (.slice none 0 0) (.slice none 0 0)
      ((w.alloc (.cells #[.slice none 0 0, .slice none 0 0, .map none, .slice none 0 0, .slice none 0 0] 219)).alloc (.map #[] 0)) := by
    refine ⟨(((Tr.refl own t w).alloc _).alloc _).tag (Nat.le_refl _) (by simp; omega) t, by simp [tagAt], (Blk.new w 219 _).alloc _, ?_, ?_, ?_, by omega⟩
    · simpa [newAt, idCells] using Row.nil _ _ t 27 2
    · simpa [newAt, boolCells] using Row.nil _ _ t 4 1
    · have := MapIs.made (w.alloc (.cells #[.slice none 0 0, .slice none 0 0, .map none, .slice none 0 0, .slice none 0 0] 219))
      simpa [newAt, cameOf] using this
  have HS := Lib.hid hstart
  clear hstart
  go_loopw [12] (fun i wr => ∃ (k : Nat) (own1 : Tags) (vI vL : Value), k ≤ n ∧ i = .int .i64 k ∧ NR w own t w.heap.size (w.heap.size + 1) (newAt ids k) (newAt ids k) (newAt ids k).length own1 vI vL wr) (fun i _ => n - (intOf i).toNat)
  case atStart => exact ⟨0, _, _, _, Nat.zero_le _, rfl, HS.out⟩
  case round =>
    clear HS
    obtain ⟨k, own1, vI, vL, hk, rfl, r⟩ := hrel
    by_cases hlt : k < n
    · have hkl : k < ids.length := by rw [Hn.out]; exact hlt
      obtain ⟨b, off, rfl, hbs, hbl, hc⟩ := HR.out (fun e => by rw [e] at hkl; simp at hkl)
      obtain ⟨g1', g2'⟩ := hc k hkl
      have hsuc := newAt_succ ids k hkl
      have hz := List.getElem?_eq_getElem hkl
      have g1 := (r.tr.cell (p := ⟨b, off + k * 2, none⟩) hbl (by rw [hbs]; exact Hst.out)).trans g1'
      have g2 := (r.tr.cell (p := ⟨b, off + k * 2 + 1, none⟩) hbl (by rw [hbs]; exact Hst.out)).trans g2'
      obtain ⟨AI, cI, rfl, _⟩ := r.rI.form
      obtain ⟨AL, cL, rfl, _⟩ := r.rL.form
      have hgood := (newAt_good ids k).2.2
      have hzero := (newAt_good ids k).2.1
      have Hsuc := Lib.hid hsuc
      have Hz := Lib.hid hz
      clear hsuc hz hc g1' g2'
      generalize ids[k] = z at *
      obtain ⟨z1, z2⟩ := z
      dsimp only at g1 g2
      have c0 := r.blk.cell 0
      have hpq := r.blk.lt
      simp at c0
      have R := Lib.hid r
      clear r
      by_cases hfull : (newAt ids k).length = 1000
      · have hd : (((newAt ids k).length : Int) == 1000) = true := by simp; omega
        have Hfull := Lib.hid hfull
        clear hfull
        go_wp2
        go_ret
        exact NR.done (R.out.alloc _) (newAt_full ids k Hfull.out)
      · have hd : (((newAt ids k).length : Int) == 1000) = false := by simp; omega
        have hacc : (newAt ids k).length < 1000 := by omega
        have hbox := Lib.hid (Blk.new wr 27 #[.int .i64 z1, .int .i64 z2])
        clear hfull
        by_cases hz0 : (z1, z2) = (0, 0)
        · have hq : ideq z1 z2 0 0 = true := ideq_true.2 ⟨congrArg Prod.fst hz0, congrArg Prod.snd hz0⟩
          have hstep : Hid (newAt ids (k + 1) = newAt ids k) := by
            show _ = _
            rw [Hsuc.out]; unfold newStep; rw [if_neg (by omega), if_pos (.inl hz0)]
          clear hz0
          go_wp2
          go_roundw
          case rel => exact ⟨k + 1, own1, _, _, by omega, by go_num, by rw [hstep.out]; exact R.out.alloc _⟩
          case measure => simp [intOf]; omega
        · have hq : ideq z1 z2 0 0 = false := ideq_false.2 (fun ⟨a, b⟩ => hz0 (by rw [a, b]))
          have hlk := fun (o : Obj) => MapIs.look (w := wr.alloc o) ((R.out.alloc o).map) Tryz.underlying220 (zero4 _) (z1, z2) false
          simp only [idv, Bool.false_eq_true, if_false, getKV_came] at hlk
          by_cases hin : (z1, z2) ∈ newAt ids k
          · simp only [if_pos hin, Option.getD_some] at hlk
            have hstep : Hid (newAt ids (k + 1) = newAt ids k) := by
              show _ = _
              rw [Hsuc.out]; unfold newStep; rw [if_neg (by omega), if_pos (.inr hin)]
            clear hz0 hin
            go_wp2
            go_roundw
            case rel => exact ⟨k + 1, own1, _, _, by omega, by go_num, by rw [hstep.out]; exact R.out.alloc _⟩
            case measure => simp [intOf]; omega
          · simp only [if_neg hin, Option.getD_none] at hlk
            have hstep : Hid (newAt ids (k + 1) = newAt ids k ++ [(z1, z2)]) := by
              show _ = _
              rw [Hsuc.out]; unfold newStep; rw [if_neg (by omega), if_neg (by rintro (h | h); exact hz0 h; exact hin h)]
            have hput := Lib.hid (put_came (z1, z2) (newAt ids k) hin)
            clear hz0 hin
            go_wp2_with (at_mapUpdate; refine wpList_mapUpdate_id _ rfl _ _ _ 220 rfl 4 Tryz.underlying220 (w.heap.size + 1) _ rfl ((R.out.alloc _).map) z1 z2 (.bool true) rfl rfl ?_; intro w1 hm1 hg1)
            have r1 := (R.out.alloc _).put hg1 (by rw [← hput.out]; exact hm1)
            have hb1 := hbox.out.kept (hg1.block wr.heap.size (by simp) (fun e => hbox.out.ne_map ((R.out.alloc _).map) (by injection e)))
            have hnv : some wr.heap.size ≠ (Value.slice AI (newAt ids k).length cI).ownBlock := fun e => by have := (R.out.rI.1.lt _ e.symm).2; omega
            clear c0 hpq g1 g2 R hm1 hg1 hbox hlk
            have c0 := r1.blk.cell 0
            have b1 := hb1.cell 0
            have b2 := hb1.cell 1
            simp at c0 b1 b2
            have R1 := Lib.hid r1
            have HB := Lib.hid hb1
            have HNV := Lib.hid hnv
            clear r1 hb1 hnv
            simp only [Act.put, List.setIfInBounds_toArray, List.set_cons_succ, List.set_cons_zero]
            refine region_held [(⟨w.heap.size, 0, none⟩, .slice AI (newAt ids k).length cI), (⟨wr.heap.size, 0, none⟩, .int .i64 z1), (⟨wr.heap.size, 1, none⟩, .int .i64 z2)] 6 2 (by kernel_rfl) (by kernel_rfl) (fun _ _ _ _ _ h => h) ⟨c0, b1, b2, trivial⟩ ?_
            intro hne hu
            simp only [AllCells] at hu
            simp only [List.take_succ_cons, List.take_zero, List.drop_succ_cons, List.drop_zero, tailWp]
            repeat (go_big_quiet_step (fail))
            refine wpQuiet_nil ?_
            obtain ⟨i0, hi, hi0, hi1, hi2⟩ := info_parts Tryz.info27
            have r3 := Lib.hid ((R1.out.alloc (.cells #[.int .i64 z1, .int .i64 z2] 27)).drew)
            go_wp2_with fail
            refine And.intro (by refine AllCells.drew (AllCells.alloc ?_ _); exact ⟨c0, b1, b2, trivial⟩) ?_
            refine wpList_append_lies _ rfl _ _ _ rfl 0 27 i0 _ 2 16 Tryz.underlying46 hi hi0 hi1 hi2 rfl (by omega) _ _ _ rfl r3.out.rI.1 ⟨w1.heap.size, 0, none⟩ 1 1 [.int .i64 z1, .int .i64 z2] rfl rfl (World.news_of_block (cs := #[.int .i64 z1, .int .i64 z2]) (t := 27) (fr := (0, 0)) (heap_alloc_new w1 _)) (by simp [Value.oneCell']) (by omega) (by simp only [maxLen]; omega) (by omega) (Nat.zero_le _) (w1.heap.size + 1) (by simp) ?_
            intro gg cap w2 hown2 hgrow hat hlt2
            obtain ⟨hq2, own2, r4⟩ := r3.out.ids hgrow (aI' := newAt ids k ++ [(z1, z2)]) (vI' := .slice (some ⟨gg, 0, none⟩) ((newAt ids k).length + 1) cap) (by rw [idCells_append, List.length_append]; simpa [idCells] using hown2) (by
              rcases hat with hat | hat
              · exact .inl hat.symm
              · right; simp only [World.size_drew, World.size_alloc]; rw [hat] at hlt2 ⊢; exact ⟨rfl, hlt2⟩)
            have hb2 : Blk w2 wr.heap.size 27 #[.int .i64 z1, .int .i64 z2] := HB.out.alloc _ |>.kept (hgrow.block wr.heap.size (by have := HB.out.lt; simp; omega) HNV.out)
            have c0' := hq2.cell 0
            have f0' := hq2.frozen 0
            have b1' := hb2.cell 0
            have b2' := hb2.cell 1
            simp at c0' b1' b2'
            clear hb2
            refine And.intro ⟨c0', b1', b2', trivial⟩ ?_
            have c1' := hq2.cell 1
            have f1' := hq2.frozen 1
            simp at c1'
            have R4 := Lib.hid r4
            clear r4 hown2 hgrow hat hlt2 r3 R1 hi hi0 hi1 hi2 hu hne hq2
            obtain ⟨i0, hi, hi0, hi1, hi2⟩ := info_parts Tryz.info4
            have r5 := Lib.hid (R4.out.alloc (.cells #[.bool true] 4))
            go_wp2_with (at_builtin; refine wpList_append_lies _ rfl _ _ _ rfl 0 4 i0 _ 1 1 Tryz.underlying100 hi hi0 hi1 hi2 rfl (by omega) _ _ _ rfl r5.out.rL.1 ⟨w2.heap.size, 0, none⟩ 1 1 [.bool true] rfl rfl (news_new _ w2.heap.size (by simp) #[.bool true] 4) (by simp [Value.oneCell']) (by omega) (by simp only [maxLen]; omega) (by omega) (Nat.zero_le _) (w2.heap.size + 1) (by simp) ?_; intro g3 cap3 w3 hown3 hgrow3 hat3 hlt3; obtain ⟨hq3, own3, r6⟩ := r5.out.lives hgrow3 (nL' := (newAt ids k).length + 1) (vL' := .slice (some ⟨g3, 0, none⟩) ((newAt ids k).length + 1) cap3) (by simpa [boolCells, List.replicate_succ'] using hown3) (lies_at hat3 hlt3 (by simp)); have d1 := hq3.cell 1; have e1 := hq3.frozen 1; simp at d1; have R6 := Lib.hid r6; clear r6 hq3 hown3 hgrow3 hat3 hlt3)
            go_roundw
            case rel => exact ⟨k + 1, own3, _, _, by omega, by go_num, by rw [hstep.out]; simpa using R6.out⟩
            case measure => simp [intOf]; omega
    · have hkk : k = n := by omega
      have hr := Lib.hid r
      clear r
      go_wp2
      go_ret
      have r := hr.out
      subst hkk
      have e : newAt ids k = newL ids := by unfold newAt newL; rw [← Hn.out, List.take_length]
      exact NR.done r e
end Go.Proofs.YtoicnghjjgkebaaGreatDoor
namespace Go.Proofs.YtoicnghjjgkebaaGreatDoor
open Go.RowKit

@[go_sem ↓] theorem Tryz.eqlnil46 (w : World) (A : Option Addr) (n c : Nat) : (binOp .eql 46 (.slice A n c) (.slice none 0 0)).run Tryz.prog w = .ok (.bool A.isNone) w := Lib.run_eql_slice_nil w _ _ A n c 0 0 Tryz.underlying46

/-- A new list of ids is handed back. -/
def ListP (w : World) (own : Tags) (t : Nat) (l : List Id) (e : Ending) (w' : World) : Prop :=
  ∃ v own', e = .returned v ∧ Tr own t w own' w' ∧ Row w' own' t 27 2 v l.length (idCells l)

theorem IdsR.cells {w : World} {own : Tags} {s : Nat} {a : Addr} {l : List Id} (h : IdsR w own s (some a) l) : ∀ j u, (idCells l)[j]? = some u → w.cell? (a.add j) = some u := by
  intro j u hu
  have hj : j < (idCells l).length := (List.getElem?_eq_some_iff.1 hu).1
  rw [length_idCells] at hj
  obtain ⟨b, off, e, _, _, hc⟩ := h (fun e => by rw [e] at hj; simp at hj)
  cases e
  have hi : j / 2 < l.length := by omega
  obtain ⟨h1, h2⟩ := hc (j / 2) hi
  obtain ⟨e1, e2⟩ := idCells_get l (j / 2) hi
  have add : (⟨b, off, none⟩ : Addr).add j = ⟨b, off + j, none⟩ := by unfold Addr.add; split <;> simp_all
  rw [add]
  rcases Nat.mod_two_eq_zero_or_one j with hm | hm
  · have : j = j / 2 * 2 := by omega
    rw [this, e1] at hu
    rw [this, h1]; exact hu
  · have : j = j / 2 * 2 + 1 := by omega
    rw [this, e2] at hu
    rw [this, ← Nat.add_assoc, h2]; exact hu
theorem idCells_one (l : List Id) : ∀ u ∈ idCells l, u.oneCell' = true := by
  induction l with
  | nil => simp [idCells]
  | cons x l ih =>
    intro u hu
    simp only [idCells, List.mem_cons] at hu
    rcases hu with rfl | rfl | hu
    · rfl
    · rfl
    · exact ih u hu

set_option maxRecDepth 100000 in
set_option maxHeartbeats 1000000 in
theorem clone_none (n c : Nat) (w : World) (own : Tags) (t : Nat) : Calls Tryz.prog 183 #[.slice none n c] w (ListP w own t []) := by
  go_enter Tryz.func183, Tryz.ntmps183
  go_wp2
  go_ret
  exact ⟨_, own, rfl, Tr.refl _ _ _, Row.nil _ _ _ _ _⟩
set_option maxRecDepth 100000 in
set_option maxHeartbeats 1000000 in
theorem clone_some (a : Addr) (n c : Nat) (l : List Id) (w : World) (own : Tags) (s t : Nat) (hR : IdsR w own s (some a) l) (hn : l.length = n) (hm : n ≤ 1000000) :
    Calls Tryz.prog 183 #[.slice (some a) n c] w (ListP w own t l) := by
  obtain ⟨i0, hi, hi0, hi1, hi2⟩ := info_parts Tryz.info27
  have hR1 := Lib.hid (hR.keep (w' := w.alloc (.cells #[] 27)) (by simp) (Same.alloc _))
  have Hn := Lib.hid hn
  have hown : (w.alloc (.cells #[] 27)).ownsRow 0 27 2 (.slice (some ⟨w.heap.size, 0, none⟩) 0 0) 0 [] := World.ownsRow_made w #[] 0 (Nat.zero_le _) (Nat.zero_le _) (by simp)
  have HO := Lib.hid hown
  clear hR hn hown
  go_enter Tryz.func183, Tryz.ntmps183
  go_wp2_with (at_builtin; refine wpList_append_own_at _ rfl _ _ _ rfl 0 27 i0 _ 2 16 Tryz.underlying46 hi hi0 hi1 hi2 rfl (by omega) _ _ _ rfl HO.out a n c (idCells l) rfl (by rw [length_idCells, Hn.out]) hR1.out.cells (idCells_one l) (by simp only [maxLen]; omega) (by omega) (Nat.zero_le _) ?_; intro v' w1 hown1 hgrow1 _ hat1)
  go_ret
  have hr0 : Row (w.alloc (.cells #[] 27)) (tagAt own w.heap.size t) t 27 2 (.slice (some ⟨w.heap.size, 0, none⟩) 0 0) 0 [] := ⟨HO.out, fun g hg => by simp [Value.ownBlock] at hg; subst hg; simp [tagAt]⟩
  obtain ⟨own2, tr2, _, r2⟩ := hr0.app (((Tr.refl own t w).alloc (.cells #[] 27)).tag (Nat.le_refl _) (by simp) t) hgrow1 hown1 (hat1.imp id (fun h => ⟨h, (hown1.lt _ h).2⟩))
  exact ⟨v', own2, rfl, tr2, by simpa [Hn.out] using r2⟩
theorem clone_c (A : Option Addr) (n c : Nat) (l : List Id) (w : World) (own : Tags) (s t : Nat) (hR : IdsR w own s A l) (hn : l.length = n) (hm : n ≤ 1000000) :
    Calls Tryz.prog 183 #[.slice A n c] w (ListP w own t l) := by
  cases A with
  | none =>
    have : l = [] := by
      cases l with
      | nil => rfl
      | cons x r => obtain ⟨_, _, e, _⟩ := hR (by simp); cases e
    subst this
    exact clone_none n c w own t
  | some a => exact clone_some a n c l w own s t hR hn hm

/-! ### Between -/






end Go.Proofs.YtoicnghjjgkebaaGreatDoor
namespace Go.Proofs.YtoicnghjjgkebaaGreatDoor
open Go.RowKit

def noDefer (o : Oper) : Bool := match o.op with | .defer _ => false | _ => true
theorem noDefer_spec {o : Oper} (h : noDefer o = true) : ∀ c, o.op ≠ .defer c := fun c e => by simp [noDefer, e] at h

section
variable {P : Program} {ops : Array Oper} {Q : Exit → Act → World → Prop} {r n : Nat}
theorem rowsIn_round {row : String} {args : Array Value} {w : World} {R : Value → World → Prop} (h : Rows P row args w R) : RowsIn (Fence.wide.inRound r) n P row args w R :=
  fun c cs _ => let ⟨v, w', hr, s⟩ := h c cs; ⟨v, w', hr, stepsIn_wide.2 s⟩
theorem oper_round {o : Oper} {a : Act} {w : World} {K : Act → World → Prop} (hd : noDefer o = true) (h : o.wp P a w K Q) : o.wpIn (Fence.wide.inRound r) n P a w K Q := by
  unfold Oper.wpIn
  refine ⟨fun _ _ => trivial, ?_⟩
  rw [Oper.semAt_eq _ _ _ (noDefer_spec hd)]
  unfold Oper.wp at h
  generalize (execOp a.eval o).run P w = res at *
  cases res with
  | ok x w' =>
    cases x <;> simp only [Oper.upon] at h <;> simp only [Oper.uponIn]
    case value v => exact h
    case skip => exact h
    case defer d => exact h
    case enter f args => exact ⟨fun e => (by cases e), CallsIn.mono (CallsIn.inRound r (callsIn_wide.2 h)) (fun e w'' he => by cases e <;> exact he)⟩
    case row row args => exact ⟨fun e => (by cases e), RowsIn.mono (rowsIn_round h) (fun v w'' he => he)⟩
  | halt x w' => cases x <;> simp only [Oper.upon] at h <;> simp only [Oper.uponIn] <;> exact h
theorem list_round (hno : ¬ LetsOut Q) : ∀ (l : List Oper) (a : Act) (w : World), l.all noDefer = true → wpList P ops Q l a w → wpListIn (Fence.wide.inRound r) n P ops Q l a w
  | [], _, _, _, h => h
  | o :: l, a, w, hd, h => by
    simp only [List.all_cons, Bool.and_eq_true] at hd
    unfold wpList at h
    unfold wpListIn
    split
    · rename_i hw
      rw [if_pos hw] at h
      rcases h with h | h
      · exact Oper.wpIn_mono (fun a w h' => list_round hno l a w hd.2 h') (oper_round hd.1 h)
      · exact absurd h.2 hno
    · rename_i hw
      rw [if_neg hw] at h
      exact ⟨fun _ _ => trivial, list_round hno l _ w hd.2 h⟩
theorem any_round {md : Region.Mode} (hno : ¬ LetsOut Q) (hd : ∀ (i : Nat) (o : Oper), ops[i]? = some o → noDefer o = true) : ∀ (fuel : Nat) (listed : Array Bool) (a : Act) (w : World), wpAny P md ops Q fuel listed a w → wpAnyIn (Fence.wide.inRound r) n P md ops Q fuel listed a w
  | 0, _, _, _, h => h
  | fuel + 1, listed, a, w, h => ⟨h.1, fun i hi => by
      have h1 := h.2 i hi
      unfold wpOp at h1
      unfold wpOpIn
      split
      · rename_i ho
        rw [ho] at h1
        exact any_round hno hd fuel _ a w h1
      · rename_i o ho
        rw [ho] at h1
        simp only at h1
        split
        · rename_i hw
          rw [if_pos hw] at h1
          rcases h1 with h1 | h1
          · exact Oper.wpIn_mono (fun a w h' => any_round hno hd fuel _ a w h') (oper_round (hd i o ho) h1)
          · exact absurd h1.2 hno
        · rename_i hw
          rw [if_neg hw] at h1
          exact ⟨fun _ _ => trivial, any_round hno hd fuel _ _ w h1⟩⟩
/-- A region that draws its order, in a round: these reads first; S holds behind each operation. -/
theorem region_free_round {id : Nat} {a : Act} {w : World} {l : List Oper} (cells : List (Addr × Value)) (order : List Nat) (g : Nat) (hno : ¬ LetsOut Q) (hd : l.all noDefer = true) (hm : P.follows .mixedOrders = true)
    (hg : l.toArray.size = (pick l order).length + g) (hh : order.map (l.toArray[·]?) = (pick l order).map some) (hs : Region.noSelect l.toArray = true) (hB : headsB l.toArray (Array.replicate l.toArray.size false) order = true)
    (hQ : ∀ c (d : Tmp) (v : Value) a w, Q (.panic c) (a.put (some d) v) w → Q (.panic c) a w) (hS : AllCells w.drew cells)
    (h : Nonempty (HeldC cells) → (∀ u : HeldC cells, AllCells u.w cells) → wpQuiet P l.toArray (fun w' => ∃ u : HeldC cells, w' = u.w) (fun a' => wpAnyN P .any l.toArray Q (fun w' => AllCells w' cells) (fun _ => true) g (listedAll (Array.replicate l.toArray.size false) order) a' w.drew) (pick l order) a) : (Code.region id l.toArray true).wpIn (Fence.wide.inRound r) n P Q a w :=
  wpIn_region_any hm (any_round hno (fun i o ho => by
    have : l[i]? = some o := by simpa using ho
    exact List.all_eq_true.1 hd o (List.mem_of_getElem? this)) _ _ _ _ (wpAny_of_N (S := fun w' => AllCells w' cells) (need := fun _ => true) _ _ _ _ (anyN_more order g hg hh hs hB hQ hS h)))
end
end Go.Proofs.YtoicnghjjgkebaaGreatDoor
namespace Go.Proofs.YtoicnghjjgkebaaGreatDoor
open Go.RowKit Go.Shelf

attribute [local go_sem] Oper.semAt_some

@[go_sem ↓] theorem Tryz.eqlnil100 (w : World) (A : Option Addr) (n c : Nat) : (binOp .eql 100 (.slice A n c) (.slice none 0 0)).run Tryz.prog w = .ok (.bool A.isNone) w := Lib.run_eql_slice_nil w _ _ A n c 0 0 Tryz.underlying100

theorem boolCells_one (l : List Bool) : ∀ u ∈ boolCells l, u.oneCell' = true := by
  intro u hu
  obtain ⟨b, _, rfl⟩ := List.mem_map.1 hu
  rfl
/-- A new list of bools is handed back. -/
def BListP (w : World) (own : Tags) (t : Nat) (l : List Bool) (e : Ending) (w' : World) : Prop :=
  ∃ v own', e = .returned v ∧ Tr own t w own' w' ∧ Row w' own' t 4 1 v l.length (boolCells l)
set_option maxRecDepth 100000 in
set_option maxHeartbeats 1000000 in
theorem bclone_none (n c : Nat) (w : World) (own : Tags) (t : Nat) : Calls Tryz.prog 184 #[.slice none n c] w (BListP w own t []) := by
  go_enter Tryz.func184, Tryz.ntmps184
  go_wp2
  go_ret
  exact ⟨_, own, rfl, Tr.refl _ _ _, Row.nil _ _ _ _ _⟩
set_option maxRecDepth 100000 in
set_option maxHeartbeats 1000000 in
theorem bclone_some (a : Addr) (n c : Nat) (l : List Bool) (w : World) (own : Tags) (t : Nat) (hR : ∀ j u, (boolCells l)[j]? = some u → (w.alloc (.cells #[] 4)).cell? (a.add j) = some u) (hn : l.length = n) (hm : n ≤ 1000000) :
    Calls Tryz.prog 184 #[.slice (some a) n c] w (BListP w own t l) := by
  obtain ⟨i0, hi, hi0, hi1, hi2⟩ := info_parts Tryz.info4
  have hR1 := Lib.hid hR
  have Hn := Lib.hid hn
  have hown : (w.alloc (.cells #[] 4)).ownsRow 0 4 1 (.slice (some ⟨w.heap.size, 0, none⟩) 0 0) 0 [] := World.ownsRow_made w #[] 0 (Nat.zero_le _) (Nat.zero_le _) (by simp)
  have HO := Lib.hid hown
  clear hR hn hown
  go_enter Tryz.func184, Tryz.ntmps184
  go_wp2_with (at_builtin; refine wpList_append_own_at _ rfl _ _ _ rfl 0 4 i0 _ 1 1 Tryz.underlying100 hi hi0 hi1 hi2 rfl (by omega) _ _ _ rfl HO.out a n c (boolCells l) rfl (by simp [boolCells, Hn.out]) hR1.out (boolCells_one l) (by simp only [maxLen]; omega) (by omega) (Nat.zero_le _) ?_; intro v' w1 hown1 hgrow1 _ hat1)
  go_ret
  have hr0 : Row (w.alloc (.cells #[] 4)) (tagAt own w.heap.size t) t 4 1 (.slice (some ⟨w.heap.size, 0, none⟩) 0 0) 0 [] := ⟨HO.out, fun g hg => by simp [Value.ownBlock] at hg; subst hg; simp [tagAt]⟩
  obtain ⟨own2, tr2, _, r2⟩ := hr0.app (((Tr.refl own t w).alloc (.cells #[] 4)).tag (Nat.le_refl _) (by simp) t) hgrow1 hown1 (hat1.imp id (fun h => ⟨h, (hown1.lt _ h).2⟩))
  exact ⟨v', own2, rfl, tr2, by simpa [Hn.out] using r2⟩
theorem bclone_c (v : Value) (n : Nat) (l : List Bool) (w : World) (own own2 : Tags) (s t : Nat) (h : Row w own2 s 4 1 v n (boolCells l)) (hm : n ≤ 1000000) :
    Calls Tryz.prog 184 #[v] w (BListP w own t l) := by
  obtain ⟨A, c, rfl, _⟩ := h.form
  have hn : n = l.length := by have := h.1.1; simp [boolCells] at this; omega
  cases A with
  | none =>
    have : l = [] := by
      cases l with
      | nil => rfl
      | cons x r =>
        rcases h.1.2 with ⟨_, h0⟩ | ⟨g, cap, cur, hv, _⟩
        · simp at hn; omega
        · cases hv
    subst this
    exact bclone_none n c w own t
  | some a =>
    refine bclone_some a n c l w own t (fun j u hj => ?_) hn.symm hm
    rcases h.1.2 with ⟨hv, _⟩ | ⟨g, cap, cur, hv, _⟩
    · cases hv
    · injection hv with e1
      injection e1 with e1
      subst e1
      have := h.1.cells (g := g) rfl j u hj
      have hb := World.block_lt_of_cell? w _ this
      rw [World.cell?_alloc_lt _ _ _ hb]
      exact this

/-! ### what a round leaves alone -/
/-- 'Foreign' speaks of cells alone. -/
def FoOK (Fo : World → Nat → Prop) : Prop := ∀ (W W' : World) (row : Option Nat) (k : Nat), Fo W k → W.grownBy W' row → (∀ r, row = some r → ∃ o : Obj, W.heap[r]? = some o ∧ o.isCells = false) → Fo W' k
/-- Foreign blocks of cells lie as they lay, and are foreign still. -/
def KF (Fo : World → Nat → Prop) (W W' : World) : Prop := ∀ (k : Nat) cs e m, W.heap[k]? = some (.cells cs e m) → Fo W k → W'.heap[k]? = W.heap[k]? ∧ Fo W' k
section
variable {Fo : World → Nat → Prop} {A B C : World}
theorem KF.trans (h : KF Fo A B) (k : KF Fo B C) : KF Fo A C := fun j cs e m hj hf => by
  obtain ⟨h1, h2⟩ := h j cs e m hj hf
  obtain ⟨k1, k2⟩ := k j cs e m (h1.trans hj) h2
  exact ⟨k1.trans h1, k2⟩
theorem KF.put (hF : FoOK Fo) (W : World) (l : Nat) (o o' : Obj) (hl : W.heap[l]? = some o) (ho : o.isCells = false) : KF Fo W (W.putObj l o') := fun j cs e m hj hf => by
  have hne : j ≠ l := fun e => by
    subst e
    rw [hj] at hl
    cases hl
    cases ho
  exact ⟨World.putObj_heap_other hne, hF W _ (some l) j hf (grownBy_putObj' W l o') (fun r e => by cases e; exact ⟨o, hl, ho⟩)⟩
theorem grownBy_of_below (h : Below A.heap.size A B) : A.grownBy B none := ⟨h.os, h.tape, h.output, h.size, fun k hk _ => h.block k hk⟩
theorem FoOK.below (hF : FoOK Fo) (h : Below A.heap.size A B) {k : Nat} (hk : Fo A k) : Fo B k := hF A B none k hk (grownBy_of_below h) (fun r e => by cases e)
theorem KF.below (hF : FoOK Fo) (h : Below A.heap.size A B) : KF Fo A B := fun j cs e m hj hf => ⟨h.block j (Array.getElem?_eq_some_iff.1 hj).1, hF.below h hf⟩
end

/-- The iterator's two lists: in foreign blocks. -/
structure Its (Fo : World → Nat → Prop) (W : World) (A B : Option Addr) (ids : List Id) (live : List Bool) : Prop where
  ids : ids ≠ [] → ∃ b off, A = some ⟨b, off, none⟩ ∧ Fo W b ∧ (∃ cs e m, W.heap[b]? = some (.cells cs e m)) ∧ ∀ i (h : i < ids.length), W.cell? ⟨b, off + i * 2, none⟩ = some (.int .i64 ids[i].1) ∧ W.cell? ⟨b, off + i * 2 + 1, none⟩ = some (.int .i64 ids[i].2)
  live : live ≠ [] → ∃ b off, B = some ⟨b, off, none⟩ ∧ Fo W b ∧ (∃ cs e m, W.heap[b]? = some (.cells cs e m)) ∧ ∀ i (h : i < live.length), W.cell? ⟨b, off + i, none⟩ = some (.bool live[i])
theorem Its.keep {Fo : World → Nat → Prop} {W W' : World} {A B : Option Addr} {ids : List Id} {live : List Bool} (h : Its Fo W A B ids live) (k : KF Fo W W') : Its Fo W' A B ids live := by
  refine ⟨fun hl => ?_, fun hl => ?_⟩
  · obtain ⟨b, off, hA, hf, ⟨cs, e, m, hb⟩, hc⟩ := h.ids hl
    obtain ⟨k1, k2⟩ := k b cs e m hb hf
    refine ⟨b, off, hA, k2, ⟨cs, e, m, k1.trans hb⟩, fun i hi => ?_⟩
    rw [World.cell?_of_block (w := W) (a := ⟨b, off + i * 2, none⟩) k1, World.cell?_of_block (w := W) (a := ⟨b, off + i * 2 + 1, none⟩) k1]
    exact hc i hi
  · obtain ⟨b, off, hA, hf, ⟨cs, e, m, hb⟩, hc⟩ := h.live hl
    obtain ⟨k1, k2⟩ := k b cs e m hb hf
    refine ⟨b, off, hA, k2, ⟨cs, e, m, k1.trans hb⟩, fun i hi => ?_⟩
    rw [World.cell?_of_block (w := W) (a := ⟨b, off + i, none⟩) k1]
    exact hc i hi

set_option maxHeartbeats 1000000 in
/-- a.All(): the receiver is boxed; the function value captures the box. -/
theorem all_c (p : Option Addr) (w : World) : Calls Tryz.prog 120 #[.pointer p] w fun e w' => e = .returned (.func (.func 182) #[] #[.pointer (some ⟨w.heap.size, 0, none⟩)]) ∧ w' = w.alloc (.cells #[.pointer p] 67) := by
  go_enter Tryz.func120, Tryz.ntmps120
  go_wp2
  go_ret
  exact ⟨rfl, rfl⟩
end Go.Proofs.YtoicnghjjgkebaaGreatDoor
namespace Go.Proofs.YtoicnghjjgkebaaGreatDoor
open Go.RowKit Go.Shelf

attribute [local go_sem] Oper.semAt_some

def pairv (x : Id × Bool) : Array Value := #[.agg #[.int .i64 x.1.1, .int .i64 x.1.2], .bool x.2]

/-- Rows that a call has made since W, tagged 1 where nothing was tagged. -/
theorem its_of {Fo : World → Nat → Prop} {W W1 W2 : World} {own1 own2 : Tags} {A B : Option Addr} {n c m d : Nat} {ids : List Id} {live : List Bool} (hnew : ∀ k, W.heap.size ≤ k → Fo W2 k)
    (t1 : Tr (fun _ => 0) 1 W own1 W1) (r1 : Row W1 own1 1 27 2 (.slice A n c) n (idCells ids)) (t2 : Tr own1 2 W1 own2 W2) (r2 : Row W2 own2 2 4 1 (.slice B m d) m (boolCells live)) : Its Fo W2 A B ids live := by
  have hs : ∀ k, k < W.heap.size → own2 k = 0 := fun k hk => (t2.same k (Nat.lt_of_lt_of_le hk t1.size)).trans (t1.same k hk)
  have r1' := r1.keep (t2.toSame (by decide))
  refine ⟨fun hl => ?_, fun hl => ?_⟩
  · obtain ⟨b, off, hA, ht, hb, hc⟩ := r1'.toIdsR.2 hl
    have hv : (Value.slice A n c).ownBlock = some b := by subst hA; rcases r1'.1.2 with ⟨hv, _⟩ | ⟨g, cap, cur, hv, _⟩ <;> (cases hv; try rfl)
    obtain ⟨cs, hblk⟩ := r1'.blk hv
    refine ⟨b, off, hA, hnew b ?_, ⟨cs, 27, (0, 0), hblk⟩, hc⟩
    rcases Nat.lt_or_ge b W.heap.size with h | h
    · have := hs b h; rw [ht] at this; cases this
    · exact h
  · have hl' : boolCells live ≠ [] := fun e => hl (by simpa [boolCells] using e)
    obtain ⟨b, off, hA, ht, hb, hc⟩ := r2.toOnesR.2 hl'
    have hv : (Value.slice B m d).ownBlock = some b := by subst hA; rcases r2.1.2 with ⟨hv, _⟩ | ⟨g, cap, cur, hv, _⟩ <;> (cases hv; try rfl)
    obtain ⟨cs, hblk⟩ := r2.blk hv
    refine ⟨b, off, hA, hnew b ?_, ⟨cs, 4, (0, 0), hblk⟩, fun i hi => ?_⟩
    · rcases Nat.lt_or_ge b W.heap.size with h | h
      · have := hs b h; rw [ht] at this; cases this
      · exact h
    · have := hc i (by simpa [boolCells] using hi)
      simpa [boolCells] using this

theorem below_two {W W1 W2 : World} {own1 own2 : Tags} (t1 : Tr (fun _ => 0) 1 W own1 W1) (t2 : Tr own1 2 W1 own2 W2) : Below W.heap.size W W2 :=
  ⟨t2.os.trans t1.os, t2.tape.trans t1.tape, t2.output.trans t1.output, Nat.le_trans t1.size t2.size, fun k hk => (t2.block k (Nat.lt_of_lt_of_le hk t1.size) (by rw [t1.same k hk]; decide)).trans (t1.block k hk (by decide))⟩
theorem zip_at {ids : List Id} {live : List Bool} {k : Nat} {z : Id} {b : Bool} (h1 : ids[k]? = some z) (h2 : live[k]? = some b) : (ids.zip live).take (k + 1) = (ids.zip live).take k ++ [(z, b)] := by
  have h : (ids.zip live)[k]? = some (z, b) := by rw [List.getElem?_zip_eq_some]; exact ⟨h1, h2⟩
  obtain ⟨h3, h4⟩ := List.getElem?_eq_some_iff.1 h
  rw [List.take_succ_eq_append_getElem h3, h4]
theorem IdsR.plain {w : World} {own : Tags} {t : Nat} {A : Option Addr} {l : List Id} (h : IdsR w own t A l) : IdsR w (fun _ => 0) 0 A l := fun hl => by
  obtain ⟨b, off, hA, _, hb, hc⟩ := h hl
  exact ⟨b, off, hA, rfl, hb, hc⟩



end Go.Proofs.YtoicnghjjgkebaaGreatDoor
namespace Go.Proofs.YtoicnghjjgkebaaGreatDoor
open Go.RowKit Go.Shelf
theorem belowPut (W : World) {B l : Nat} (o : Obj) (h : B ≤ l) : Below B W (W.putObj l o) :=
  ⟨rfl, rfl, rfl, by simp [World.putObj], fun k hk => World.putObj_heap_other (by omega)⟩
end Go.Proofs.YtoicnghjjgkebaaGreatDoor
