/-
  seqc.New: its contract. Condition: the ids can be read, and lie in no block of the tag t.
-/
import Derived.Test.YtgmlhpkhecbkoaaS6
namespace Go.Proofs.Ytgmlhpkhecbkoaa
open Go.RowKit

theorem there_first (F : List Id) (z : Id) (h : z ∉ F) : putKV z (.bool false) (thereOf F []) = thereOf (F ++ [z]) [] := by
  rw [putKV_new]
  · unfold thereOf; simp
  · have := getKV_there F [] z
    have h0 : has F [] z = false := by simp [has, h]
    rw [h0] at this
    simpa using this
/-- One id more among the first ones. -/
theorem ShIs.addFirst {w w1 w2 w3 : World} {own : Tags} {t p s h b g c : Nat} {F : List Id} {vF vD : Value} (a : ShIs w own t p F [] [] vF s h vD b []) (z : Id) (hz : z ∉ F)
    (hm1 : MapIs w1 s (putKV z (.bool false) (thereOf F []))) (hg1 : w.grownBy w1 (some s)) (hb2 : Below w1.heap.size w1 w2)
    (hg3 : w2.grownBy w3 vF.ownBlock) (hr3 : w3.ownsRow 0 24 2 (.slice (some ⟨g, 0, none⟩) (F.length + 1) c) (F.length + 1) (idCells (F ++ [z]))) (hat : vF.ownBlock = some g ∨ (w2.heap.size ≤ g ∧ g < w3.heap.size)) :
    Blk w3 p 100 #[vF, .map (some s), .map (some h), vD, .map (some b)] ∧ ∃ own', Tr own t w own' (w3.setCell ⟨p, 0, none⟩ (.slice (some ⟨g, 0, none⟩) (F.length + 1) c)) ∧ ShIs (w3.setCell ⟨p, 0, none⟩ (.slice (some ⟨g, 0, none⟩) (F.length + 1) c)) own' t p (F ++ [z]) [] [] (.slice (some ⟨g, 0, none⟩) (F.length + 1) c) s h vD b [] := by
  have mne : ∀ {X e cs}, Blk w X e cs → (some s : Option Nat) ≠ some X := fun hb e => hb.ne_map a.mS (Option.some.inj e).symm
  have tr2 : Tr own t w own w2 := ((Tr.refl own t w).grown hg1 (fun k e => .inl (by cases e; exact a.tS))).below hb2
  have rF2 : Row w2 own t 24 2 vF F.length (idCells F) := (a.rF.past (own1 := own) hg1 (fun _ _ => rfl) (fun g' hg' e => a.rF.not_map a.mS (by rw [hg', ← Option.some.inj e]))).keep (Same.below hb2)
  have rD2 : Row w2 own t 113 4 vD 0 (cutCells []) := (a.rD.past (own1 := own) hg1 (fun _ _ => rfl) (fun g' hg' e => a.rD.not_map a.mS (by rw [hg', ← Option.some.inj e]))).keep (Same.below hb2)
  have b1 := a.blk.past hg1 (mne a.blk)
  have b2 := b1.kept (hb2.block p b1.lt)
  have mS2 := hm1.kept (hb2.block s hm1.lt)
  have mH1 := a.mH.past hg1 (fun e => a.sh (Option.some.inj e))
  have mH2 := mH1.kept (hb2.block h mH1.lt)
  have mB1 := a.mB.past hg1 (fun e => a.sb (Option.some.inj e))
  have mB2 := mB1.kept (hb2.block b mB1.lt)
  obtain ⟨own1, tr3, hs, r3⟩ := rF2.app2 (Tr.refl own t w2) hg3 hr3 hat
  have b3 := b2.past hg3 (rF2.not_blk b2 (by decide))
  have mS3 := mS2.past hg3 (rF2.not_map mS2)
  have mH3 := mH2.past hg3 (rF2.not_map mH2)
  have mB3 := mB2.past hg3 (rF2.not_map mB2)
  have rD3 : Row w3 own1 t 113 4 vD 0 (cutCells []) := rD2.past hg3 hs (fun g' hg' e => by
    obtain ⟨cs, hbD⟩ := rD2.blk hg'
    exact rF2.not_blk hbD (by decide) e)
  have tp : own1 p = t := by rw [hs p b2.lt]; exact a.tag
  refine ⟨b3, own1, (tr2.trans tr3).setCell (.inl tp) _, tp, ?_, ?_, by rw [hs s mS2.lt]; exact a.tS, ?_, by rw [hs h mH2.lt]; exact a.tH, ?_, by rw [hs b mB2.lt]; exact a.tB, ?_, ?_, a.sh, a.sb, a.hb, by simp [getKV], by simp [kids_nil], by simp [getKV]⟩
  · have := b3.store 0 (.slice (some ⟨g, 0, none⟩) (F.length + 1) c)
    simpa using this
  · have := r3.stored (p := ⟨p, 0, none⟩) (.slice (some ⟨g, 0, none⟩) (F.length + 1) c) (fun _ _ h _ => h.ne_type b3 (by decide))
    simpa using this
  · rw [← there_first F z hz]; exact mS3.store (p := ⟨p, 0, none⟩) _ b3
  · exact mH3.store (p := ⟨p, 0, none⟩) _ b3
  · exact mB3.store (p := ⟨p, 0, none⟩) _ b3
  · exact rD3.stored (p := ⟨p, 0, none⟩) _ (fun _ _ h _ => h.ne_type b3 (by decide))

/-- What the loop of New keeps. -/
structure NS (w : World) (own : Tags) (t q s h b : Nat) (F : List Id) (own1 : Tags) (vF : Value) (wr : World) : Prop where
  tr : Tr own t w own1 wr
  ax : ShIs wr own1 t q F [] [] vF s h (.slice none 0 0) b []
theorem NS.next {w wr w' : World} {own own1 : Tags} {t q s h b : Nat} {F : List Id} {vF : Value} (a : NS w own t q s h b F own1 vF wr) (k : Below wr.heap.size wr w') : NS w own t q s h b F own1 vF w' := ⟨a.tr.below k, a.ax.keep (Same.below k)⟩
def SNewP (w : World) (own : Tags) (t : Nat) (l : List Id) (e : Ending) (w' : World) : Prop :=
  ∃ own' q, e = .returned (.pointer (some ⟨q, 0, none⟩)) ∧ Tr own t w own' w' ∧ ShAt w' own' t q l [] []

set_option maxRecDepth 100000 in
set_option maxHeartbeats 4000000 in
theorem snew_c (A : Option Addr) (n c : Nat) (ids : List Id) (w : World) (own : Tags) (s0 t : Nat) (hR : IdsR w own s0 A ids) (hn : ids.length = n) (hm : n ≤ maxLen) (hst : s0 ≠ t) (hf : Fresh own w) (ht : t ≠ 0) :
    Calls Try.prog 26 #[.slice A n c] w (SNewP w own t (newL ids)) := by
  unfold maxLen at hm
  have Hn := Lib.hid hn
  have HR := Lib.hid hR
  have Hst := Lib.hid hst
  have Hf := Lib.hid hf
  have Ht := Lib.hid ht
  have hq0 := Blk.new w 100 #[.slice none 0 0, .map none, .map none, .slice none 0 0, .map none]
  have tr0 := ((Tr.refl own t w).alloc (.cells #[.slice none 0 0, .map none, .map none, .slice none 0 0, .map none] 100)).tag (k := w.heap.size) (Nat.le_refl _) (by simp) t
  have hp0 := prep0_c _ _ t w.heap.size (show tagAt own w.heap.size t w.heap.size = t by simp [tagAt]) hq0
  have T0 := Lib.hid tr0
  have HP := Lib.hid hp0
  clear hn hR hst hf ht hq0 tr0 hp0
  go_enter Try.func26, Try.ntmps26
  go_wp2_with fail
  refine HP.out.mono ?_
  rintro e w1 ⟨rfl, own1, tr1, s, h, b, a1⟩
  have N1 : Hid (NS w own t w.heap.size s h b (newAt ids 0) own1 (.slice none 0 0) w1) := ⟨T0.out.trans tr1, by simpa [newAt] using a1⟩
  clear tr1 a1 T0 HP
  go_wp2_with fail
  go_loopw [14] (fun i wr => ∃ (k : Nat) (own1 : Tags) (vF : Value), k ≤ n ∧ i = .int .i64 k ∧ NS w own t w.heap.size s h b (newAt ids k) own1 vF wr) (fun i _ => n - (intOf i).toNat)
  case atStart => exact ⟨0, own1, _, Nat.zero_le _, rfl, N1.out⟩
  case round =>
    clear N1
    obtain ⟨k, ow, vF, hk, rfl, r⟩ := hrel
    by_cases hlt : k < n
    · have hkl : k < ids.length := by rw [Hn.out]; exact hlt
      obtain ⟨bA, off, rfl, hbs, hbl, hc⟩ := HR.out (fun e => by rw [e] at hkl; simp at hkl)
      obtain ⟨g1', g2'⟩ := hc k hkl
      have hsuc := newAt_succ ids k hkl
      have g1 := (r.tr.cell (p := ⟨bA, off + k * 2, none⟩) hbl (by rw [hbs]; exact Hst.out)).trans g1'
      have g2 := (r.tr.cell (p := ⟨bA, off + k * 2 + 1, none⟩) hbl (by rw [hbs]; exact Hst.out)).trans g2'
      have hgood := (newAt_good ids k)
      have Hsuc := Lib.hid hsuc
      clear hsuc hc g1' g2' hbs hbl
      generalize ids[k] = z at *
      obtain ⟨z1, z2⟩ := z
      dsimp only at g1 g2
      obtain ⟨F, hF⟩ : ∃ F, newAt ids k = F := ⟨_, rfl⟩
      rw [hF] at r hgood Hsuc
      have HF := Lib.hid hF
      obtain ⟨AF, cF, rfl, _⟩ := r.ax.rF.form
      have R := Lib.hid (r.next ((Below.refl _ _).alloc (Nat.le_refl _) (.cells #[.int .i64 z1, .int .i64 z2] 24)))
      have X := Lib.hid (Box.new ((Hf.out.tr r.tr)) 24 #[.int .i64 z1, .int .i64 z2])
      have hk0 : (0 : Int) ≤ (k : Int) := by omega
      have hkn : (k : Int) < (n : Int) := by omega
      have hlk := fun (nq : Nat) => MapIs.look (w := (wr.alloc (.cells #[.int .i64 z1, .int .i64 z2] 24)).drewN nq) R.out.ax.mS Try.underlying95 (zero4 _) (z1, z2) true
      simp only [idv, if_true] at hlk
      have c1 := r.ax.blk.cell 1
      have c0 := r.ax.blk.cell 0
      have hpl := r.ax.blk.lt
      simp only [List.getElem?_toArray, List.getElem?_cons_zero, List.getElem?_cons_succ] at c1 c0
      have hkv := getKV_there F [] (z1, z2)
      clear hF r
      cases hg : getKV (z1, z2) (thereOf F []) with
      | some u =>
        rw [hg] at hkv
        simp only [hg, Option.getD_some, Option.isSome_some] at hlk hkv
        have hin : (z1, z2) ∈ F := by
          have := hkv.symm
          simp [has] at this
          exact this
        have hstep : Hid (newAt ids (k + 1) = F) := by
          show _ = _
          rw [Hsuc.out]; unfold newStep
          split
          · rfl
          · rw [if_pos (.inr hin)]
        clear hg hkv hin hgood
        go_wp2_with fail
        go_quiet (fail)
        go_wp2_with fail
        go_roundw
        case rel => exact ⟨k + 1, ow, _, by omega, by go_num, by rw [hstep.out]; exact R.out.next ⟨rfl, rfl, rfl, Nat.le_refl _, fun _ _ => rfl⟩⟩
        case measure => simp [intOf]; omega
      | none =>
        rw [hg] at hkv
        simp only [hg, Option.getD_none, Option.isSome_none] at hlk hkv
        have hnin : (z1, z2) ∉ F := by
          have := hkv.symm
          simp [has] at this
          exact this
        by_cases hz0 : (z1, z2) = (0, 0)
        · have hq : ideq z1 z2 0 0 = true := ideq_true.2 ⟨congrArg Prod.fst hz0, congrArg Prod.snd hz0⟩
          have hstep : Hid (newAt ids (k + 1) = F) := by
            show _ = _
            rw [Hsuc.out]; unfold newStep
            split
            · rfl
            · rw [if_pos (.inl hz0)]
          clear hg hkv hnin hz0 hgood
          go_wp2_with fail
          go_quiet (fail)
          go_wp2_with fail
          go_roundw
          case rel => exact ⟨k + 1, ow, _, by omega, by go_num, by rw [hstep.out]; exact R.out.next ⟨rfl, rfl, rfl, Nat.le_refl _, fun _ _ => rfl⟩⟩
          case measure => simp [intOf]; omega
        · have hq : ideq z1 z2 0 0 = false := ideq_false.2 (fun ⟨a, b⟩ => hz0 (by rw [a, b]))
          by_cases hfull : F.length = 1000
          · have hstep : Hid (newAt ids (k + 1) = F) := by
              show _ = _
              rw [Hsuc.out]; unfold newStep
              rw [if_pos hfull]
            have hbig : (1000 : Int) ≤ (F.length : Int) := by omega
            clear hg hkv hnin hz0 hgood hfull
            go_wp2_with fail
            go_quiet (fail)
            go_wp2_with fail
            go_roundw
            case rel => exact ⟨k + 1, ow, _, by omega, by go_num, by rw [hstep.out]; exact R.out.next ⟨rfl, rfl, rfl, Nat.le_refl _, fun _ _ => rfl⟩⟩
            case measure => simp [intOf]; omega
          · have hlt1 : F.length < 1000 := by have := hgood.2.2; omega
            have hstep : Hid (newAt ids (k + 1) = F ++ [(z1, z2)]) := by
              show _ = _
              rw [Hsuc.out]; unfold newStep
              rw [if_neg hfull, if_neg (by rintro (h | h); exact hz0 h; exact hnin h)]
            have hbig : ¬ ((1000 : Int) ≤ (F.length : Int)) := by omega
            have Hnin := Lib.hid hnin
            clear hg hkv hnin hz0 hgood hfull
            go_wp2_with fail
            go_quiet (fail)
            have R2 := Lib.hid (R.out.next (w' := (wr.alloc (.cells #[.int .i64 z1, .int .i64 z2] 24)).drewN nq) ⟨rfl, rfl, rfl, Nat.le_refl _, fun _ _ => rfl⟩)
            have X2 := Lib.hid (X.out.drewN nq)
            clear hlk c1 c0 hpl g1 g2 R X
            generalize (wr.alloc (.cells #[.int .i64 z1, .int .i64 z2] 24)).drewN nq = W2 at *
            generalize wr.heap.size = XB at *
            have c1 := R2.out.ax.blk.cell 1
            have c0 := R2.out.ax.blk.cell 0
            have e0 := X2.out.blk.cell 0
            have e1 := X2.out.blk.cell 1
            simp only [List.getElem?_toArray, List.getElem?_cons_zero, List.getElem?_cons_succ] at c1 c0 e0 e1
            go_wp2_with fail
            have HC : AllCells W2.drew [(⟨w.heap.size, 1, none⟩, .map (some s)), (⟨XB, 0, none⟩, .int .i64 z1), (⟨XB, 1, none⟩, .int .i64 z2)] := ⟨c1, e0, e1, trivial⟩
            have MS2 := Lib.hid (R2.out.ax.mS.kept (w' := W2.drew) rfl)
            clear c1 c0 e0 e1
            refine region_free _ [0, 1, 2, 3, 4] 1 (by kernel_rfl) (by kernel_rfl) (by kernel_rfl) (by kernel_rfl) (by kernel_rfl) (fun _ _ _ _ _ h => h) HC ?_
            intro hne hu
            simp only [AllCells] at hu
            simp only [pick, List.take_succ_cons, List.take_zero, List.drop_succ_cons, List.drop_zero, List.cons_append, List.nil_append]
            repeat (go_big_quiet_step (fail))
            refine wpQuiet_nil ?_
            clear hne hu
            refine anyN_oneL 5 (by kernel_rfl) ?_
            simp only [List.take_succ_cons, List.take_zero, List.drop_succ_cons, List.drop_zero]
            refine wpList_mapUpdate_id W2.drew rfl _ _ _ 95 rfl 4 Try.underlying95 s (thereOf F []) rfl MS2.out z1 z2 (.bool false) rfl rfl ?_
            intro w3 hm3 hg3
            have mne : ∀ {X e cs}, Blk W2 X e cs → (some s : Option Nat) ≠ some X := fun hb e => hb.ne_map R2.out.ax.mS (Option.some.inj e).symm
            have b3 := (R2.out.ax.blk.kept (w' := W2.drew) rfl).past hg3 (mne R2.out.ax.blk)
            have x3 := (X2.out.blk.kept (w' := W2.drew) rfl).past hg3 (mne X2.out.blk)
            have HC3 : Hid (AllCells w3 [(⟨w.heap.size, 1, none⟩, .map (some s)), (⟨XB, 0, none⟩, .int .i64 z1), (⟨XB, 1, none⟩, .int .i64 z2)]) := ⟨b3.cell 1, x3.cell 0, x3.cell 1, trivial⟩
            have HD3 : AllCells w3.drew [(⟨w.heap.size, 0, none⟩, .slice AF F.length cF), (⟨XB, 0, none⟩, .int .i64 z1), (⟨XB, 1, none⟩, .int .i64 z2)] := ⟨b3.cell 0, x3.cell 0, x3.cell 1, trivial⟩
            have bl4 : Below w3.heap.size w3 (w3.alloc (.cells #[.int .i64 z1, .int .i64 z2] 24)).drew := ((Below.refl _ _).alloc (Nat.le_refl _) _).drew
            have HD4 := Lib.hid (AllCells.below (show AllCells w3 [(⟨w.heap.size, 0, none⟩, .slice AF F.length cF), (⟨XB, 0, none⟩, .int .i64 z1), (⟨XB, 1, none⟩, .int .i64 z2)] from ⟨b3.cell 0, x3.cell 0, x3.cell 1, trivial⟩) bl4)
            have RF4 := Lib.hid ((R2.out.ax.rF.past (own1 := ow) (show W2.grownBy w3 (some s) from ⟨hg3.os, hg3.tape, hg3.output, hg3.size, hg3.block⟩) (fun _ _ => rfl) (fun g' hg' e => R2.out.ax.rF.not_map R2.out.ax.mS (by rw [hg', ← Option.some.inj e]))).keep (Same.below bl4))
            have M3 := Lib.hid hm3
            have G3 := Lib.hid (show W2.grownBy w3 (some s) from ⟨hg3.os, hg3.tape, hg3.output, hg3.size, hg3.block⟩)
            have BL4 := Lib.hid bl4
            have XB4 := Lib.hid (x3.kept (bl4.block XB x3.lt))
            have hxo : Hid ((Value.slice AF F.length cF).ownBlock ≠ some XB) := fun e => by
              have := R2.out.ax.rF.2 XB e
              rw [X2.out.zero] at this
              exact Ht.out this.symm
            obtain ⟨i0, hi, hz0, hz1, hz2⟩ := info_parts Try.info24
            clear hm3 hg3 b3 x3 mne bl4 HC
            simp only [Exit.then]
            refine And.intro (fun _ => HC3.out) ?_
            refine ⟨by kernel_rfl, ?_⟩
            clear HC3
            simp only [Act.put]
            go_wp2_with fail
            refine region_picked _ [0, 1, 2, 3, 4, 5] [0, 1, 2, 3, 4, 5, 6, 7] 5 (by kernel_rfl) (by kernel_rfl) (by kernel_rfl) (by kernel_rfl) (by kernel_rfl) (by kernel_rfl) (fun _ _ _ _ _ h => h) HD3 ?_
            intro hne hu
            simp only [AllCells] at hu
            simp only [pick, List.take_succ_cons, List.take_zero, List.drop_succ_cons, List.drop_zero, List.cons_append, List.nil_append]
            repeat (go_big_quiet_step (fail))
            refine wpQuiet_nil ?_
            clear hne hu
            refine anyN_oneL 6 (by kernel_rfl) ?_
            simp only [List.take_succ_cons, List.take_zero, List.drop_succ_cons, List.drop_zero]
            go_wp2_with fail
            refine And.intro (fun _ => HD4.out) ?_
            refine anyN_oneL 7 (by kernel_rfl) ?_
            simp only [List.take_succ_cons, List.take_zero, List.drop_succ_cons, List.drop_zero]
            refine wpList_append_own_at _ rfl _ _ _ rfl 0 24 i0 _ 2 16 Try.underlying22 hi hz0 hz1 hz2 rfl (by omega) _ _ _ rfl RF4.out.1 ⟨w3.heap.size, 0, none⟩ 1 1 [.int .i64 z1, .int .i64 z2] rfl rfl (World.news_of_block (cs := #[.int .i64 z1, .int .i64 z2]) (t := 24) (fr := (0, 0)) (heap_alloc_new w3 _)) (by simp [Value.oneCell']) (by simp only [maxLen]; omega) (by omega) (Nat.zero_le _) ?_
            intro v' w5 hown5 hgrow5 _ hat5
            obtain ⟨gN, cN, rfl⟩ := ownsRow_slice hown5 (by omega)
            have hr5 : w5.ownsRow 0 24 2 (.slice (some ⟨gN, 0, none⟩) (F.length + 1) cN) (F.length + 1) (idCells (F ++ [(z1, z2)])) := by
              simpa [idCells_append, idCells] using hown5
            obtain ⟨b5, own5, tr5, a5⟩ := R2.out.ax.addFirst (z1, z2) Hnin.out M3.out G3.out BL4.out hgrow5 hr5 (hat5.imp (fun e => e.symm.trans rfl) (fun e => by
              have e' : gN = (w3.alloc (.cells #[.int .i64 z1, .int .i64 z2] 24)).drew.heap.size := by simpa [Value.ownBlock] using e
              exact ⟨by omega, (hown5.lt gN rfl).2⟩))
            have x5 := XB4.out.kept (hgrow5.block XB XB4.out.lt (fun e => hxo.out e.symm))
            have f0 := b5.frozen 0
            have g0 := b5.cell 0
            simp only [List.getElem?_toArray, List.getElem?_cons_zero] at g0
            have HC5 : Hid (AllCells w5 [(⟨w.heap.size, 0, none⟩, .slice AF F.length cF), (⟨XB, 0, none⟩, .int .i64 z1), (⟨XB, 1, none⟩, .int .i64 z2)]) := ⟨g0, x5.cell 0, x5.cell 1, trivial⟩
            have NS5 : Hid (NS w own t w.heap.size s h b (F ++ [(z1, z2)]) own5 _ _) := ⟨R2.out.tr.trans tr5, a5⟩
            clear hown5 hgrow5 hat5 hr5 b5 tr5 a5 x5
            simp only [Exit.then]
            refine And.intro (fun _ => HC5.out) ?_
            refine anyN_restL 8 (by kernel_rfl) (by decide) (by kernel_rfl) ?_
            simp only [List.drop_succ_cons, List.drop_zero, Act.put, List.setIfInBounds_toArray, List.set_cons_succ, List.set_cons_zero]
            go_wp2_with fail
            go_roundw
            case rel => exact ⟨k + 1, own5, _, by omega, by go_num, by rw [hstep.out]; exact NS5.out⟩
            case measure => simp [intOf]; omega
    · have hkk : k = n := by omega
      subst hkk
      have hF : Hid (newAt ids k = newL ids) := by
        show _ = _
        unfold newAt newL
        rw [List.take_of_length_le (by rw [Hn.out]; omega)]
      have R := Lib.hid r
      clear r
      have hkn : ¬ ((k : Int) < (k : Int)) := by omega
      go_wp2_with fail
      go_ret
      have g := newL_good ids
      exact ⟨ow, _, rfl, R.out.tr, Wf.new _ g.1 g.2.1 g.2.2, by simp, _, _, _, _, _, _, by rw [← hF.out]; exact R.out.ax⟩
end Go.Proofs.Ytgmlhpkhecbkoaa
