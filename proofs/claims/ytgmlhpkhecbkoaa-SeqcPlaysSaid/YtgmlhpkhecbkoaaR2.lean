/-
  counterpaneref03.New. Condition: the ids can be read, and lie in no block of the tag t.
-/
import Derived.Test.YtgmlhpkhecbkoaaR1
namespace Go.Proofs.Ytgmlhpkhecbkoaa
open Go.RowKit

/-- What the loop of New keeps. -/
structure FR (w : World) (own : Tags) (t q : Nat) (aI : List Id) (nL : Nat) (own1 : Tags) (vI vL : Value) (wr : World) : Prop where
  tr : Tr own t w own1 wr
  tag : own1 q = t
  blk : Blk wr q 55 #[vI, vL]
  rI : Row wr own1 t 24 2 vI aI.length (idCells aI)
  rL : Row wr own1 t 4 1 vL nL (boolCells (List.replicate nL true))
section
variable {w : World} {own : Tags} {t q : Nat} {aI : List Id} {nL : Nat} {own1 : Tags} {vI vL : Value} {wr w1 : World}
theorem FR.below (r : FR w own t q aI nL own1 vI vL wr) (hb : Below wr.heap.size wr w1) : FR w own t q aI nL own1 vI vL w1 :=
  ⟨r.tr.below hb, r.tag, r.blk.kept (hb.block q r.blk.lt), r.rI.keep (Same.below hb), r.rL.keep (Same.below hb)⟩
theorem FR.alloc (r : FR w own t q aI nL own1 vI vL wr) (o : Obj) : FR w own t q aI nL own1 vI vL (wr.alloc o) := r.below ((Below.refl _ _).alloc (Nat.le_refl _) o)
theorem FR.drew (r : FR w own t q aI nL own1 vI vL wr) : FR w own t q aI nL own1 vI vL wr.drew := r.below ((Below.refl _ _).drew)
theorem FR.ids {aI' : List Id} {vI' : Value} (r : FR w own t q aI nL own1 vI vL wr) (hg : wr.grownBy w1 vI.ownBlock) (hr : w1.ownsRow 0 24 2 vI' aI'.length (idCells aI'))
    (hat : vI'.ownBlock = vI.ownBlock ∨ (vI'.ownBlock = some wr.heap.size ∧ wr.heap.size < w1.heap.size)) :
    Blk w1 q 55 #[vI, vL] ∧ ∃ own2, FR w own t q aI' nL own2 vI' vL (w1.setCell ⟨q, 0, none⟩ vI') := by
  obtain ⟨own2, tr2, hs, r2⟩ := r.rI.app r.tr hg hr hat
  have b1 := r.blk.beside r.rI hg (by decide)
  have tq : own2 q = t := by rw [hs q r.blk.lt]; exact r.tag
  exact ⟨b1, own2, tr2.setCell (.inl tq) _, tq, b1.store 0 vI', r2.stored _ (fun _ _ h _ => h.ne_type b1 (by decide)), (r.rL.beside r.rI hg hs (by decide)).stored _ (fun _ _ h _ => h.ne_type b1 (by decide))⟩
theorem FR.lives {nL' : Nat} {vL' : Value} (r : FR w own t q aI nL own1 vI vL wr) (hg : wr.grownBy w1 vL.ownBlock) (hr : w1.ownsRow 0 4 1 vL' nL' (boolCells (List.replicate nL' true)))
    (hat : vL'.ownBlock = vL.ownBlock ∨ (vL'.ownBlock = some wr.heap.size ∧ wr.heap.size < w1.heap.size)) :
    Blk w1 q 55 #[vI, vL] ∧ ∃ own2, FR w own t q aI nL' own2 vI vL' (w1.setCell ⟨q, 1, none⟩ vL') := by
  obtain ⟨own2, tr2, hs, r2⟩ := r.rL.app r.tr hg hr hat
  have b1 := r.blk.beside r.rL hg (by decide)
  have tq : own2 q = t := by rw [hs q r.blk.lt]; exact r.tag
  exact ⟨b1, own2, tr2.setCell (.inl tq) _, tq, b1.store 1 vL', (r.rI.beside r.rL hg hs (by decide)).stored _ (fun _ _ h _ => h.ne_type b1 (by decide)), r2.stored _ (fun _ _ h _ => h.ne_type b1 (by decide))⟩
end

def RNewP (w : World) (own : Tags) (t : Nat) (l : List Id) (e : Ending) (w' : World) : Prop :=
  ∃ own' q, e = .returned (.pointer (some ⟨q, 0, none⟩)) ∧ Tr own t w own' w' ∧ w.heap.size ≤ q ∧ RefAt w' own' t q l (List.replicate l.length true)
theorem FR.done {w : World} {own : Tags} {t : Nat} {ids acc : List Id} {own1 : Tags} {vI vL : Value} {wr : World} (r : FR w own t w.heap.size acc acc.length own1 vI vL wr) (e : acc = newL ids) :
    RNewP w own t (newL ids) (.returned (.pointer (some ⟨w.heap.size, 0, none⟩))) wr := by
  subst e
  exact ⟨own1, _, rfl, r.tr, Nat.le_refl _, by simp, (newL_good ids).2.2, vI, vL, r.tag, r.blk, r.rI, by simpa using r.rL⟩

set_option maxRecDepth 100000 in
set_option maxHeartbeats 2000000 in
theorem rnew_c (A : Option Addr) (n c : Nat) (ids : List Id) (w : World) (own : Tags) (s t : Nat) (hR : IdsR w own s A ids) (hn : ids.length = n) (hm : n ≤ maxLen) (hst : s ≠ t) :
    Calls Try.prog 33 #[.slice A n c] w (RNewP w own t (newL ids)) := by
  unfold maxLen at hm
  have Hn := Lib.hid hn
  have HR := Lib.hid hR
  have Hst := Lib.hid hst
  clear hn hR hst
  go_enter Try.func33, Try.ntmps33
  go_wp2
  have hstart : FR w own t w.heap.size (newAt ids 0) (newAt ids 0).length (tagAt own w.heap.size t) (.slice none 0 0) (.slice none 0 0) (w.alloc (.cells #[.slice none 0 0, .slice none 0 0] 55)) := by
    refine ⟨((Tr.refl own t w).alloc _).tag (Nat.le_refl _) (by simp) t, by simp [tagAt], Blk.new w 55 _, ?_, ?_⟩
    · simpa [newAt, idCells] using Row.nil _ _ t 24 2
    · simpa [newAt, boolCells] using Row.nil _ _ t 4 1
  have HS := Lib.hid hstart
  clear hstart
  go_loopw [4] (fun i wr => ∃ (k : Nat) (own1 : Tags) (vI vL : Value), k ≤ n ∧ i = .int .i64 k ∧ FR w own t w.heap.size (newAt ids k) (newAt ids k).length own1 vI vL wr) (fun i _ => n - (intOf i).toNat)
  case atStart => exact ⟨0, _, _, _, Nat.zero_le _, rfl, HS.out⟩
  case round =>
    clear HS
    obtain ⟨k, own1, vI, vL, hk, rfl, r⟩ := hrel
    by_cases hlt : k < n
    · have hkl : k < ids.length := by rw [Hn.out]; exact hlt
      obtain ⟨b, off, rfl, hbs, hbl, hc⟩ := HR.out (fun e => by rw [e] at hkl; simp at hkl)
      obtain ⟨g1', g2'⟩ := hc k hkl
      have hsuc := newAt_succ ids k hkl
      have g1 := (r.tr.cell (p := ⟨b, off + k * 2, none⟩) hbl (by rw [hbs]; exact Hst.out)).trans g1'
      have g2 := (r.tr.cell (p := ⟨b, off + k * 2 + 1, none⟩) hbl (by rw [hbs]; exact Hst.out)).trans g2'
      obtain ⟨AI, cI, rfl, _⟩ := r.rI.form
      obtain ⟨AL, cL, rfl, _⟩ := r.rL.form
      have hgood := (newAt_good ids k).2.2
      have Hsuc := Lib.hid hsuc
      have G1 := Lib.hid g1'
      have G2 := Lib.hid g2'
      have HBS := Lib.hid hbs
      have HBL := Lib.hid hbl
      clear hsuc hc g1' g2' hbs hbl
      generalize ids[k] = z at *
      obtain ⟨z1, z2⟩ := z
      dsimp only at g1 g2 G1 G2
      have R := Lib.hid r
      clear r
      by_cases hz0 : (z1, z2) = (0, 0)
      · have hq : ideq z1 z2 0 0 = true := ideq_true.2 ⟨congrArg Prod.fst hz0, congrArg Prod.snd hz0⟩
        have hstep : Hid (newAt ids (k + 1) = newAt ids k) := by
          show _ = _
          rw [Hsuc.out]; unfold newStep
          split
          · rfl
          · rw [if_pos (.inl hz0)]
        clear hz0
        go_wp2
        go_roundw
        case rel => exact ⟨k + 1, own1, _, _, by omega, by go_num, by rw [hstep.out]; exact R.out⟩
        case measure => simp [intOf]; omega
      · have hq : ideq z1 z2 0 0 = false := ideq_false.2 (fun ⟨a, b⟩ => hz0 (by rw [a, b]))
        have hf := find_c wr own1 t w.heap.size (newAt ids k) z1 z2 _ _ R.out.blk R.out.rI (by omega)
        by_cases hin : (z1, z2) ∈ newAt ids k
        · rw [show idxI (z1, z2) (newAt ids k) = ((newAt ids k).idxOf (z1, z2) : Int) by unfold idxI; rw [if_pos hin]] at hf
          generalize (newAt ids k).idxOf (z1, z2) = jx at hf
          have HF := Lib.hid hf
          have hstep : Hid (newAt ids (k + 1) = newAt ids k) := by
            show _ = _
            rw [Hsuc.out]; unfold newStep
            split
            · rfl
            · rw [if_pos (.inr hin)]
          clear hz0 hin hf
          go_wp2_with fail
          refine HF.out.mono ?_
          rintro e w1 ⟨rfl, hB⟩
          have R1 := Lib.hid (R.out.below hB)
          clear hB g1 g2 R HF
          have hj0 : ¬ ((jx : Int) < 0) := by omega
          go_wp2
          go_roundw
          case rel => exact ⟨k + 1, own1, _, _, by omega, by go_num, by rw [hstep.out]; exact R1.out⟩
          case measure => simp [intOf]; omega
        · rw [show idxI (z1, z2) (newAt ids k) = -1 by unfold idxI; rw [if_neg hin]] at hf
          have HF := Lib.hid hf
          by_cases hfull : (newAt ids k).length = 1000
          · have hstep : Hid (newAt ids (k + 1) = newAt ids k) := by
              show _ = _
              rw [Hsuc.out]; unfold newStep; rw [if_pos hfull]
            have hd : ¬ (((newAt ids k).length : Int) < 1000) := by omega
            clear hz0 hin hf
            go_wp2_with fail
            refine HF.out.mono ?_
            rintro e w1 ⟨rfl, hB⟩
            have R1 := Lib.hid (R.out.below hB)
            clear hB g1 g2 R HF
            have c0 := R1.out.blk.cell 0
            simp at c0
            go_wp2
            go_roundw
            case rel => exact ⟨k + 1, own1, _, _, by omega, by go_num, by rw [hstep.out]; exact R1.out⟩
            case measure => simp [intOf]; omega
          · have hstep : Hid (newAt ids (k + 1) = newAt ids k ++ [(z1, z2)]) := by
              show _ = _
              rw [Hsuc.out]; unfold newStep; rw [if_neg (by omega), if_neg (by rintro (h | h); exact hz0 h; exact hin h)]
            have hacc : (newAt ids k).length < 1000 := by omega
            have hd : (((newAt ids k).length : Int) < 1000) := by omega
            clear hz0 hin hf hfull
            go_wp2_with fail
            refine HF.out.mono ?_
            rintro e w1 ⟨rfl, hB⟩
            have R1 := Lib.hid (R.out.below hB)
            clear hB g1 g2 R HF
            have c0 := R1.out.blk.cell 0
            simp at c0
            have g1 := (R1.out.tr.cell (p := ⟨b, off + k * 2, none⟩) HBL.out (by rw [HBS.out]; exact Hst.out)).trans G1.out
            have g2 := (R1.out.tr.cell (p := ⟨b, off + k * 2 + 1, none⟩) HBL.out (by rw [HBS.out]; exact Hst.out)).trans G2.out
            go_wp2_with fail
            refine region_held [(⟨w.heap.size, 0, none⟩, .slice AI (newAt ids k).length cI), (⟨b, off + k * 2, none⟩, .int .i64 z1), (⟨b, off + k * 2 + 1, none⟩, .int .i64 z2)] 9 2 (by kernel_rfl) (by kernel_rfl) (fun _ _ _ _ _ h => h) ⟨c0, g1, g2, trivial⟩ ?_
            intro hne hu
            simp only [AllCells] at hu
            simp only [List.take_succ_cons, List.take_zero, List.drop_succ_cons, List.drop_zero, tailWp]
            repeat (go_big_quiet_step (fail))
            refine wpQuiet_nil ?_
            obtain ⟨i0, hi, hi0, hi1, hi2⟩ := info_parts Try.info24
            have r3 := Lib.hid ((R1.out.alloc (.cells #[.int .i64 z1, .int .i64 z2] 24)).drew)
            go_wp2_with fail
            refine And.intro (by refine AllCells.drew (AllCells.alloc ?_ _); exact ⟨c0, g1, g2, trivial⟩) ?_
            refine wpList_append_lies _ rfl _ _ _ rfl 0 24 i0 _ 2 16 Try.underlying22 hi hi0 hi1 hi2 rfl (by omega) _ _ _ rfl r3.out.rI.1 ⟨w1.heap.size, 0, none⟩ 1 1 [.int .i64 z1, .int .i64 z2] rfl rfl (World.news_of_block (cs := #[.int .i64 z1, .int .i64 z2]) (t := 24) (fr := (0, 0)) (heap_alloc_new w1 _)) (by simp [Value.oneCell']) (by omega) (by simp only [maxLen]; omega) (by omega) (Nat.zero_le _) (w1.heap.size + 1) (by simp) ?_
            intro gg cap w2 hown2 hgrow hat hlt2
            have tr2 := r3.out.tr.grown hgrow (fun k e => .inl (r3.out.rI.2 k e))
            have h1' := (tr2.cell (p := ⟨b, off + k * 2, none⟩) HBL.out (by rw [HBS.out]; exact Hst.out)).trans G1.out
            have h2' := (tr2.cell (p := ⟨b, off + k * 2 + 1, none⟩) HBL.out (by rw [HBS.out]; exact Hst.out)).trans G2.out
            obtain ⟨hq2, own2, r4⟩ := r3.out.ids hgrow (aI' := newAt ids k ++ [(z1, z2)]) (vI' := .slice (some ⟨gg, 0, none⟩) ((newAt ids k).length + 1) cap) (by rw [idCells_append, List.length_append]; simpa [idCells] using hown2) (by
              rcases hat with hat | hat
              · exact .inl hat.symm
              · right; simp only [World.size_drew, World.size_alloc]; rw [hat] at hlt2 ⊢; exact ⟨rfl, hlt2⟩)
            have c0' := hq2.cell 0
            have f0' := hq2.frozen 0
            simp at c0'
            refine And.intro ⟨c0', h1', h2', trivial⟩ ?_
            have c1' := hq2.cell 1
            have f1' := hq2.frozen 1
            simp at c1'
            have R4 := Lib.hid r4
            clear r4 hown2 hgrow hat hlt2 r3 R1 hi hi0 hi1 hi2 hu hne hq2 tr2 h1' h2' c0 g1 g2
            obtain ⟨i0, hi, hi0, hi1, hi2⟩ := info_parts Try.info4
            have r5 := Lib.hid (R4.out.alloc (.cells #[.bool true] 4))
            go_wp2_with (at_builtin; refine wpList_append_lies _ rfl _ _ _ rfl 0 4 i0 _ 1 1 Try.underlying53 hi hi0 hi1 hi2 rfl (by omega) _ _ _ rfl r5.out.rL.1 ⟨w2.heap.size, 0, none⟩ 1 1 [.bool true] rfl rfl (news_new _ w2.heap.size (by simp) #[.bool true] 4) (by simp [Value.oneCell']) (by omega) (by simp only [maxLen]; omega) (by omega) (Nat.zero_le _) (w2.heap.size + 1) (by simp) ?_; intro g3 cap3 w3 hown3 hgrow3 hat3 hlt3; obtain ⟨hq3, own3, r6⟩ := r5.out.lives hgrow3 (nL' := (newAt ids k).length + 1) (vL' := .slice (some ⟨g3, 0, none⟩) ((newAt ids k).length + 1) cap3) (by simpa [boolCells, List.replicate_succ'] using hown3) (lies_at hat3 hlt3 (by simp)); have d1 := hq3.cell 1; have e1 := hq3.frozen 1; simp at d1; have R6 := Lib.hid r6; clear r6 hq3 hown3 hgrow3 hat3 hlt3)
            go_roundw
            case rel => exact ⟨k + 1, own3, _, _, by omega, by go_num, by rw [hstep.out]; simpa using R6.out⟩
            case measure => simp [intOf]; omega
    · have hkk : k = n := by omega
      have hr := Lib.hid r
      clear r
      go_wp2
      go_ret
      have r := hr.out
      subst hkk
      have e : newAt ids k = newL ids := by unfold newAt newL; rw [← Hn.out, List.take_length]
      exact FR.done r e
end Go.Proofs.Ytgmlhpkhecbkoaa
