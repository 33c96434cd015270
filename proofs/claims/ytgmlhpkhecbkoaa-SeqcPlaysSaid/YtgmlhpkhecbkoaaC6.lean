/-
  axis.New. Condition: the ids can be read, and lie in no block of the tag t.
-/
import Derived.Test.YtgmlhpkhecbkoaaC5
namespace Go.Proofs.Ytgmlhpkhecbkoaa
open Go.RowKit

section
variable {w0 w w1 : World} {own0 own own2 : Tags} {t : Nat} {e e2 : TypeId} {size size2 : Nat} {v v' v2 : Value} {n n' n2 : Nat} {xs ys xs2 : List Value}
theorem Row.app (tr : Tr own0 t w0 own w) (h : Row w own t e size v n xs) (hg : w.grownBy w1 v.ownBlock) (hr : w1.ownsRow 0 e size v' n' ys)
    (hat : v'.ownBlock = v.ownBlock ∨ (v'.ownBlock = some w.heap.size ∧ w.heap.size < w1.heap.size)) :
    ∃ own2, Tr own0 t w0 own2 w1 ∧ (∀ k, k < w.heap.size → own2 k = own k) ∧ Row w1 own2 t e size v' n' ys := by
  have tr1 : Tr own0 t w0 own w1 := tr.grown hg (fun k e => .inl (h.2 k e))
  rcases hat with hat | ⟨hat, hlt⟩
  · exact ⟨own, tr1, fun _ _ => rfl, hr, fun k hk => h.2 k (hat ▸ hk)⟩
  · refine ⟨tagAt own w.heap.size t, tr1.tag tr.size hlt t, fun k hk => by unfold tagAt; rw [if_neg (by omega)], hr, fun k hk => ?_⟩
    rw [hat] at hk
    cases hk
    simp [tagAt]
theorem Blk.beside {q : Nat} {cs : Array Value} (h : Blk w q e2 cs) (hv : Row w own t e size v n xs) (hg : w.grownBy w1 v.ownBlock) (hne : e2 ≠ e) : Blk w1 q e2 cs :=
  h.kept (hg.block q h.lt (fun ev => by
    obtain ⟨cs', hb⟩ := hv.blk ev.symm
    exact h.ne_type hb hne rfl))
theorem MapIs.beside {s : Nat} {l : List (Id × Value)} (h : MapIs w s l) (hv : Row w own t e size v n xs) (hg : w.grownBy w1 v.ownBlock) : MapIs w1 s l :=
  h.kept (hg.block s h.lt (fun ev => by
    obtain ⟨cs', hb⟩ := hv.blk ev.symm
    exact hb.ne_map h rfl))
theorem Row.beside (h : Row w own t e2 size2 v2 n2 xs2) (hv : Row w own t e size v n xs) (hg : w.grownBy w1 v.ownBlock) (hs : ∀ k, k < w.heap.size → own2 k = own k) (hne : e2 ≠ e) : Row w1 own2 t e2 size2 v2 n2 xs2 :=
  h.kept fun k hlt hk ho => by
    obtain ⟨cs', hb⟩ := h.blk hk
    refine ⟨hg.block k hlt (fun ev => ?_), by rw [hs k hlt]; exact ho⟩
    obtain ⟨cs2, hb2⟩ := hv.blk ev.symm
    exact hb.ne_type hb2 hne rfl
end

def newStep (acc : List Id) (z : Id) : List Id := if acc.length = 1000 then acc else if z = (0, 0) ∨ z ∈ acc then acc else acc ++ [z]
def newL (ids : List Id) : List Id := ids.foldl newStep []
theorem newStep_good (acc : List Id) (z : Id) (h : acc.Nodup ∧ (0, 0) ∉ acc ∧ acc.length ≤ 1000) : (newStep acc z).Nodup ∧ (0, 0) ∉ newStep acc z ∧ (newStep acc z).length ≤ 1000 := by
  unfold newStep
  split
  · exact h
  · split
    · exact h
    · rename_i h1 h2
      refine ⟨?_, ?_, by simp; omega⟩
      · rw [List.nodup_append]
        exact ⟨h.1, by simp, fun a ha b hb e => by simp at hb; subst hb; subst e; exact h2 (.inr ha)⟩
      · simp only [List.mem_append, List.mem_singleton]
        rintro (h3 | h3)
        · exact h.2.1 h3
        · exact h2 (.inl h3.symm)
theorem foldl_good (ids acc : List Id) (h : acc.Nodup ∧ (0, 0) ∉ acc ∧ acc.length ≤ 1000) : (ids.foldl newStep acc).Nodup ∧ (0, 0) ∉ ids.foldl newStep acc ∧ (ids.foldl newStep acc).length ≤ 1000 := by
  induction ids generalizing acc with
  | nil => exact h
  | cons z r ih => exact ih _ (newStep_good acc z h)
theorem newL_good (ids : List Id) : (newL ids).Nodup ∧ (0, 0) ∉ newL ids ∧ (newL ids).length ≤ 1000 := foldl_good ids [] (by simp)
theorem foldl_full (ids acc : List Id) (h : acc.length = 1000) : ids.foldl newStep acc = acc := by
  induction ids with
  | nil => rfl
  | cons z r ih => simp only [List.foldl_cons, newStep, if_pos h]; exact ih
def newAt (ids : List Id) (k : Nat) : List Id := (ids.take k).foldl newStep []
theorem newAt_succ (ids : List Id) (k : Nat) (hk : k < ids.length) : newAt ids (k + 1) = newStep (newAt ids k) ids[k] := by
  unfold newAt; rw [List.take_succ_eq_append_getElem hk, List.foldl_append]; rfl
theorem newAt_full (ids : List Id) (k : Nat) (h : (newAt ids k).length = 1000) : newAt ids k = newL ids := by
  unfold newL
  conv => rhs; rw [← List.take_append_drop k ids, List.foldl_append]
  exact (foldl_full _ _ h).symm
theorem newAt_good (ids : List Id) (k : Nat) : (newAt ids k).Nodup ∧ (0, 0) ∉ newAt ids k ∧ (newAt ids k).length ≤ 1000 := foldl_good _ [] (by simp)
def cameOf (l : List Id) : List (Id × Value) := l.map fun z => (z, .bool true)
theorem getKV_came (k : Id) (l : List Id) : getKV k (cameOf l) = if k ∈ l then some (.bool true) else none := by
  induction l with
  | nil => simp [cameOf, getKV]
  | cons z r ih =>
    simp only [cameOf, List.map_cons, getKV] at ih ⊢
    by_cases hz : z = k
    · subst hz; simp
    · rw [if_neg hz, ih]; simp only [List.mem_cons, show k ≠ z from fun e => hz e.symm, false_or]
theorem put_came (k : Id) (l : List Id) (h : k ∉ l) : putKV k (.bool true) (cameOf l) = cameOf (l ++ [k]) := by
  rw [putKV_new _ _ _ (by rw [getKV_came, if_neg h])]; simp [cameOf]

theorem news_new (W : World) (N : Nat) (hN : W.heap.size = N) (cs : Array Value) (e : TypeId) : ∀ j u, cs.toList[j]? = some u → (W.alloc (.cells cs e)).cell? ((⟨N, 0, none⟩ : Addr).add j) = some u := by
  subst hN; exact World.news_of_block (heap_alloc_new W _)
theorem lies_at {v : Value} {g n c H N M : Nat} (hat : v.ownBlock = some g ∨ g = H) (hlt : g < M) (hH : H = N) :
    (Value.slice (some ⟨g, 0, none⟩) n c).ownBlock = v.ownBlock ∨ ((Value.slice (some ⟨g, 0, none⟩) n c).ownBlock = some N ∧ N < M) := by
  subst hH
  rcases hat with hat | hat
  · exact .inl hat.symm
  · subst hat; exact .inr ⟨rfl, hlt⟩
/-- What the loop of New keeps. -/
structure NR (w : World) (own : Tags) (t q m : Nat) (aM aI : List Id) (nL : Nat) (own1 : Tags) (vI vL : Value) (wr : World) : Prop where
  tr : Tr own t w own1 wr
  tag : own1 q = t
  blk : Blk wr q 73 #[vI, vL, .map none, .slice none 0 0, .slice none 0 0]
  rI : Row wr own1 t 24 2 vI aI.length (idCells aI)
  rL : Row wr own1 t 4 1 vL nL (boolCells (List.replicate nL true))
  map : MapIs wr m (cameOf aM)
  new : w.heap.size ≤ m
section
variable {w : World} {own : Tags} {t q m : Nat} {aM aI : List Id} {nL : Nat} {own1 : Tags} {vI vL : Value} {wr w1 : World}
theorem NR.below (r : NR w own t q m aM aI nL own1 vI vL wr) (hb : Below wr.heap.size wr w1) : NR w own t q m aM aI nL own1 vI vL w1 :=
  ⟨r.tr.below hb, r.tag, r.blk.kept (hb.block q r.blk.lt), r.rI.keep (Same.below hb), r.rL.keep (Same.below hb), r.map.kept (hb.block m r.map.lt), r.new⟩
theorem NR.alloc (r : NR w own t q m aM aI nL own1 vI vL wr) (o : Obj) : NR w own t q m aM aI nL own1 vI vL (wr.alloc o) := r.below ((Below.refl _ _).alloc (Nat.le_refl _) o)
theorem NR.drew (r : NR w own t q m aM aI nL own1 vI vL wr) : NR w own t q m aM aI nL own1 vI vL wr.drew := r.below ((Below.refl _ _).drew)
theorem NR.put {aM' : List Id} (r : NR w own t q m aM aI nL own1 vI vL wr) (hg : wr.grownBy w1 (some m)) (hm : MapIs w1 m (cameOf aM')) : NR w own t q m aM' aI nL own1 vI vL w1 := by
  have ne : ∀ {g e cs}, Blk wr g e cs → g ≠ m := fun h => h.ne_map r.map
  exact ⟨r.tr.grown hg (fun k e => .inr (by cases e; exact r.new)), r.tag, r.blk.kept (hg.block q r.blk.lt (fun e => ne r.blk (by injection e))), r.rI.grown hg (fun _ _ h => ne h), r.rL.grown hg (fun _ _ h => ne h), hm, r.new⟩
theorem NR.ids {aI' : List Id} {vI' : Value} (r : NR w own t q m aM aI nL own1 vI vL wr) (hg : wr.grownBy w1 vI.ownBlock) (hr : w1.ownsRow 0 24 2 vI' aI'.length (idCells aI'))
    (hat : vI'.ownBlock = vI.ownBlock ∨ (vI'.ownBlock = some wr.heap.size ∧ wr.heap.size < w1.heap.size)) :
    Blk w1 q 73 #[vI, vL, .map none, .slice none 0 0, .slice none 0 0] ∧ ∃ own2, NR w own t q m aM aI' nL own2 vI' vL (w1.setCell ⟨q, 0, none⟩ vI') := by
  obtain ⟨own2, tr2, hs, r2⟩ := r.rI.app r.tr hg hr hat
  have b1 := r.blk.beside r.rI hg (by decide)
  have m1 := r.map.beside r.rI hg
  have tq : own2 q = t := by rw [hs q r.blk.lt]; exact r.tag
  exact ⟨b1, own2, tr2.setCell (.inl tq) _, tq, b1.store 0 vI', r2.stored _ (fun _ _ h _ => h.ne_type b1 (by decide)), (r.rL.beside r.rI hg hs (by decide)).stored _ (fun _ _ h _ => h.ne_type b1 (by decide)),
    m1.kept (Below.heap_setCell w1 _ _ m (fun e => b1.ne_map m1 e.symm)), r.new⟩
theorem NR.lives {nL' : Nat} {vL' : Value} (r : NR w own t q m aM aI nL own1 vI vL wr) (hg : wr.grownBy w1 vL.ownBlock) (hr : w1.ownsRow 0 4 1 vL' nL' (boolCells (List.replicate nL' true)))
    (hat : vL'.ownBlock = vL.ownBlock ∨ (vL'.ownBlock = some wr.heap.size ∧ wr.heap.size < w1.heap.size)) :
    Blk w1 q 73 #[vI, vL, .map none, .slice none 0 0, .slice none 0 0] ∧ ∃ own2, NR w own t q m aM aI nL' own2 vI vL' (w1.setCell ⟨q, 1, none⟩ vL') := by
  obtain ⟨own2, tr2, hs, r2⟩ := r.rL.app r.tr hg hr hat
  have b1 := r.blk.beside r.rL hg (by decide)
  have m1 := r.map.beside r.rL hg
  have tq : own2 q = t := by rw [hs q r.blk.lt]; exact r.tag
  exact ⟨b1, own2, tr2.setCell (.inl tq) _, tq, b1.store 1 vL', (r.rI.beside r.rL hg hs (by decide)).stored _ (fun _ _ h _ => h.ne_type b1 (by decide)), r2.stored _ (fun _ _ h _ => h.ne_type b1 (by decide)),
    m1.kept (Below.heap_setCell w1 _ _ m (fun e => b1.ne_map m1 e.symm)), r.new⟩
theorem NR.axis {ids : List Id} (r : NR w own t q m aM (newL ids) (newL ids).length own1 vI vL wr) : AxisAt wr own1 t q (newL ids) (List.replicate (newL ids).length true) := by
  obtain ⟨h1, h2, h3⟩ := newL_good ids
  exact ⟨by simp, h3, h1, h2, .inr ⟨vI, vL, r.tag, r.blk, r.rI, by simpa using r.rL⟩⟩
end

def NewP (w : World) (own : Tags) (t : Nat) (l : List Id) (e : Ending) (w' : World) : Prop :=
  ∃ own' q, e = .returned (.pointer (some ⟨q, 0, none⟩)) ∧ Tr own t w own' w' ∧ w.heap.size ≤ q ∧ AxisAt w' own' t q l (List.replicate l.length true)

theorem NR.done {w : World} {own : Tags} {t : Nat} {ids acc aM : List Id} {m : Nat} {own1 : Tags} {vI vL : Value} {wr : World} (r : NR w own t w.heap.size m aM acc acc.length own1 vI vL wr) (e : acc = newL ids) :
    NewP w own t (newL ids) (.returned (.pointer (some ⟨w.heap.size, 0, none⟩))) wr := by
  subst e
  exact ⟨own1, _, rfl, r.tr, Nat.le_refl _, r.axis⟩

set_option maxRecDepth 100000 in
set_option maxHeartbeats 2000000 in
theorem new_c (A : Option Addr) (n c : Nat) (ids : List Id) (w : World) (own : Tags) (s t : Nat) (hR : IdsR w own s A ids) (hn : ids.length = n) (hm : n ≤ maxLen) (hst : s ≠ t) :
    Calls Try.prog 17 #[.slice A n c] w (NewP w own t (newL ids)) := by
  unfold maxLen at hm
  have Hn := Lib.hid hn
  have HR := Lib.hid hR
  have Hst := Lib.hid hst
  clear hn hR hst
  go_enter Try.func17, Try.ntmps17
  go_wp2
  have hstart : NR w own t w.heap.size (w.heap.size + 1) (newAt ids 0) (newAt ids 0) (newAt ids 0).length (tagAt own w.heap.size t) (.slice none 0 0) (.slice none 0 0)
      ((w.alloc (.cells #[.slice none 0 0, .slice none 0 0, .map none, .slice none 0 0, .slice none 0 0] 73)).alloc (.map #[] 0)) := by
    refine ⟨(((Tr.refl own t w).alloc _).alloc _).tag (Nat.le_refl _) (by simp; omega) t, by simp [tagAt], (Blk.new w 73 _).alloc _, ?_, ?_, ?_, by omega⟩
    · simpa [newAt, idCells] using Row.nil _ _ t 24 2
    · simpa [newAt, boolCells] using Row.nil _ _ t 4 1
    · have := MapIs.made (w.alloc (.cells #[.slice none 0 0, .slice none 0 0, .map none, .slice none 0 0, .slice none 0 0] 73))
      simpa [newAt, cameOf] using this
  have HS := Lib.hid hstart
  clear hstart
  go_loopw [12] (fun i wr => ∃ (k : Nat) (own1 : Tags) (vI vL : Value), k ≤ n ∧ i = .int .i64 k ∧ NR w own t w.heap.size (w.heap.size + 1) (newAt ids k) (newAt ids k) (newAt ids k).length own1 vI vL wr) (fun i _ => n - (intOf i).toNat)
  case atStart => exact ⟨0, _, _, _, Nat.zero_le _, rfl, HS.out⟩
  case round =>
    clear HS
    obtain ⟨k, own1, vI, vL, hk, rfl, r⟩ := hrel
    by_cases hlt : k < n
    · have hkl : k < ids.length := by rw [Hn.out]; exact hlt
      obtain ⟨b, off, rfl, hbs, hbl, hc⟩ := HR.out (fun e => by rw [e] at hkl; simp at hkl)
      obtain ⟨g1', g2'⟩ := hc k hkl
      have hsuc := newAt_succ ids k hkl
      have hz := List.getElem?_eq_getElem hkl
      have g1 := (r.tr.cell (p := ⟨b, off + k * 2, none⟩) hbl (by rw [hbs]; exact Hst.out)).trans g1'
      have g2 := (r.tr.cell (p := ⟨b, off + k * 2 + 1, none⟩) hbl (by rw [hbs]; exact Hst.out)).trans g2'
      obtain ⟨AI, cI, rfl, _⟩ := r.rI.form
      obtain ⟨AL, cL, rfl, _⟩ := r.rL.form
      have hgood := (newAt_good ids k).2.2
      have hzero := (newAt_good ids k).2.1
      have Hsuc := Lib.hid hsuc
      have Hz := Lib.hid hz
      clear hsuc hz hc g1' g2'
      generalize ids[k] = z at *
      obtain ⟨z1, z2⟩ := z
      dsimp only at g1 g2
      have c0 := r.blk.cell 0
      have hpq := r.blk.lt
      simp at c0
      have R := Lib.hid r
      clear r
      by_cases hfull : (newAt ids k).length = 1000
      · have hd : (((newAt ids k).length : Int) == 1000) = true := by simp; omega
        have Hfull := Lib.hid hfull
        clear hfull
        go_wp2
        go_ret
        exact NR.done (R.out.alloc _) (newAt_full ids k Hfull.out)
      · have hd : (((newAt ids k).length : Int) == 1000) = false := by simp; omega
        have hacc : (newAt ids k).length < 1000 := by omega
        have hbox := Lib.hid (Blk.new wr 24 #[.int .i64 z1, .int .i64 z2])
        clear hfull
        by_cases hz0 : (z1, z2) = (0, 0)
        · have hq : ideq z1 z2 0 0 = true := ideq_true.2 ⟨congrArg Prod.fst hz0, congrArg Prod.snd hz0⟩
          have hstep : Hid (newAt ids (k + 1) = newAt ids k) := by
            show _ = _
            rw [Hsuc.out]; unfold newStep; rw [if_neg (by omega), if_pos (.inl hz0)]
          clear hz0
          go_wp2
          go_roundw
          case rel => exact ⟨k + 1, own1, _, _, by omega, by go_num, by rw [hstep.out]; exact R.out.alloc _⟩
          case measure => simp [intOf]; omega
        · have hq : ideq z1 z2 0 0 = false := ideq_false.2 (fun ⟨a, b⟩ => hz0 (by rw [a, b]))
          have hlk := fun (o : Obj) => MapIs.look (w := wr.alloc o) ((R.out.alloc o).map) Try.underlying95 (zero4 _) (z1, z2) false
          simp only [idv, Bool.false_eq_true, if_false, getKV_came] at hlk
          by_cases hin : (z1, z2) ∈ newAt ids k
          · simp only [if_pos hin, Option.getD_some] at hlk
            have hstep : Hid (newAt ids (k + 1) = newAt ids k) := by
              show _ = _
              rw [Hsuc.out]; unfold newStep; rw [if_neg (by omega), if_pos (.inr hin)]
            clear hz0 hin
            go_wp2
            go_roundw
            case rel => exact ⟨k + 1, own1, _, _, by omega, by go_num, by rw [hstep.out]; exact R.out.alloc _⟩
            case measure => simp [intOf]; omega
          · simp only [if_neg hin, Option.getD_none] at hlk
            have hstep : Hid (newAt ids (k + 1) = newAt ids k ++ [(z1, z2)]) := by
              show _ = _
              rw [Hsuc.out]; unfold newStep; rw [if_neg (by omega), if_neg (by rintro (h | h); exact hz0 h; exact hin h)]
            have hput := Lib.hid (put_came (z1, z2) (newAt ids k) hin)
            clear hz0 hin
            go_wp2_with (at_mapUpdate; refine wpList_mapUpdate_id _ rfl _ _ _ 95 rfl 4 Try.underlying95 (w.heap.size + 1) _ rfl ((R.out.alloc _).map) z1 z2 (.bool true) rfl rfl ?_; intro w1 hm1 hg1)
            have r1 := (R.out.alloc _).put hg1 (by rw [← hput.out]; exact hm1)
            have hb1 := hbox.out.kept (hg1.block wr.heap.size (by simp) (fun e => hbox.out.ne_map ((R.out.alloc _).map) (by injection e)))
            have hnv : some wr.heap.size ≠ (Value.slice AI (newAt ids k).length cI).ownBlock := fun e => by have := (R.out.rI.1.lt _ e.symm).2; omega
            clear c0 hpq g1 g2 R hm1 hg1 hbox hlk
            have c0 := r1.blk.cell 0
            have b1 := hb1.cell 0
            have b2 := hb1.cell 1
            simp at c0 b1 b2
            have R1 := Lib.hid r1
            have HB := Lib.hid hb1
            have HNV := Lib.hid hnv
            clear r1 hb1 hnv
            simp only [Act.put, List.setIfInBounds_toArray, List.set_cons_succ, List.set_cons_zero]
            refine region_held [(⟨w.heap.size, 0, none⟩, .slice AI (newAt ids k).length cI), (⟨wr.heap.size, 0, none⟩, .int .i64 z1), (⟨wr.heap.size, 1, none⟩, .int .i64 z2)] 6 2 (by kernel_rfl) (by kernel_rfl) (fun _ _ _ _ _ h => h) ⟨c0, b1, b2, trivial⟩ ?_
            intro hne hu
            simp only [AllCells] at hu
            simp only [List.take_succ_cons, List.take_zero, List.drop_succ_cons, List.drop_zero, tailWp]
            repeat (go_big_quiet_step (fail))
            refine wpQuiet_nil ?_
            obtain ⟨i0, hi, hi0, hi1, hi2⟩ := info_parts Try.info24
            have r3 := Lib.hid ((R1.out.alloc (.cells #[.int .i64 z1, .int .i64 z2] 24)).drew)
            go_wp2_with fail
            refine And.intro (by refine AllCells.drew (AllCells.alloc ?_ _); exact ⟨c0, b1, b2, trivial⟩) ?_
            refine wpList_append_lies _ rfl _ _ _ rfl 0 24 i0 _ 2 16 Try.underlying22 hi hi0 hi1 hi2 rfl (by omega) _ _ _ rfl r3.out.rI.1 ⟨w1.heap.size, 0, none⟩ 1 1 [.int .i64 z1, .int .i64 z2] rfl rfl (World.news_of_block (cs := #[.int .i64 z1, .int .i64 z2]) (t := 24) (fr := (0, 0)) (heap_alloc_new w1 _)) (by simp [Value.oneCell']) (by omega) (by simp only [maxLen]; omega) (by omega) (Nat.zero_le _) (w1.heap.size + 1) (by simp) ?_
            intro gg cap w2 hown2 hgrow hat hlt2
            obtain ⟨hq2, own2, r4⟩ := r3.out.ids hgrow (aI' := newAt ids k ++ [(z1, z2)]) (vI' := .slice (some ⟨gg, 0, none⟩) ((newAt ids k).length + 1) cap) (by rw [idCells_append, List.length_append]; simpa [idCells] using hown2) (by
              rcases hat with hat | hat
              · exact .inl hat.symm
              · right; simp only [World.size_drew, World.size_alloc]; rw [hat] at hlt2 ⊢; exact ⟨rfl, hlt2⟩)
            have hb2 : Blk w2 wr.heap.size 24 #[.int .i64 z1, .int .i64 z2] := HB.out.alloc _ |>.kept (hgrow.block wr.heap.size (by have := HB.out.lt; simp; omega) HNV.out)
            have c0' := hq2.cell 0
            have f0' := hq2.frozen 0
            have b1' := hb2.cell 0
            have b2' := hb2.cell 1
            simp at c0' b1' b2'
            clear hb2
            refine And.intro ⟨c0', b1', b2', trivial⟩ ?_
            have c1' := hq2.cell 1
            have f1' := hq2.frozen 1
            simp at c1'
            have R4 := Lib.hid r4
            clear r4 hown2 hgrow hat hlt2 r3 R1 hi hi0 hi1 hi2 hu hne hq2
            obtain ⟨i0, hi, hi0, hi1, hi2⟩ := info_parts Try.info4
            have r5 := Lib.hid (R4.out.alloc (.cells #[.bool true] 4))
            go_wp2_with (at_builtin; refine wpList_append_lies _ rfl _ _ _ rfl 0 4 i0 _ 1 1 Try.underlying53 hi hi0 hi1 hi2 rfl (by omega) _ _ _ rfl r5.out.rL.1 ⟨w2.heap.size, 0, none⟩ 1 1 [.bool true] rfl rfl (news_new _ w2.heap.size (by simp) #[.bool true] 4) (by simp [Value.oneCell']) (by omega) (by simp only [maxLen]; omega) (by omega) (Nat.zero_le _) (w2.heap.size + 1) (by simp) ?_; intro g3 cap3 w3 hown3 hgrow3 hat3 hlt3; obtain ⟨hq3, own3, r6⟩ := r5.out.lives hgrow3 (nL' := (newAt ids k).length + 1) (vL' := .slice (some ⟨g3, 0, none⟩) ((newAt ids k).length + 1) cap3) (by simpa [boolCells, List.replicate_succ'] using hown3) (lies_at hat3 hlt3 (by simp)); have d1 := hq3.cell 1; have e1 := hq3.frozen 1; simp at d1; have R6 := Lib.hid r6; clear r6 hq3 hown3 hgrow3 hat3 hlt3)
            go_roundw
            case rel => exact ⟨k + 1, own3, _, _, by omega, by go_num, by rw [hstep.out]; simpa using R6.out⟩
            case measure => simp [intOf]; omega
    · have hkk : k = n := by omega
      have hr := Lib.hid r
      clear r
      go_wp2
      go_ret
      have r := hr.out
      subst hkk
      have e : newAt ids k = newL ids := by unfold newAt newL; rw [← Hn.out, List.take_length]
      exact NR.done r e
end Go.Proofs.Ytgmlhpkhecbkoaa
