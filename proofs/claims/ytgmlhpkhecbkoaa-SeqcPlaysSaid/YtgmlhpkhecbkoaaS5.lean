/-
  (*Shared).Insert: its contract. Condition: the shared axis lies in memory.
-/
import Derived.Test.YtgmlhpkhecbkoaaS4
namespace Go.Proofs.Ytgmlhpkhecbkoaa
open Go.RowKit

/-- What Insert holds while it looks for the place: the two boxes, the shared axis. -/
structure SI5 (w : World) (own : Tags) (t p : Nat) (first : List Id) (puts cuts : List (Id × Id)) (vF : Value) (s h : Nat) (vD : Value) (b : Nat) (hl : List (Id × Value)) (b1 b2 x y : Int) (wr : World) : Prop where
  below : Below w.heap.size w wr
  ax : ShIs wr own t p first puts cuts vF s h vD b hl
  xb : Box wr own w.heap.size 24 #[.int .i64 b1, .int .i64 b2]
  xz : Box wr own (w.heap.size + 1) 24 #[.int .i64 x, .int .i64 y]
theorem SI5.next {w wr w' : World} {own : Tags} {t p : Nat} {first : List Id} {puts cuts : List (Id × Id)} {vF : Value} {s h : Nat} {vD : Value} {b : Nat} {hl : List (Id × Value)} {b1 b2 x y : Int} (a : SI5 w own t p first puts cuts vF s h vD b hl b1 b2 x y wr) (k : Below wr.heap.size wr w') : SI5 w own t p first puts cuts vF s h vD b hl b1 b2 x y w' :=
  ⟨a.below.trans (k.mono a.below.size), a.ax.keep (Same.below k), a.xb.next k, a.xz.next k⟩
theorem SI5.cells {w wr : World} {own : Tags} {t p : Nat} {first : List Id} {puts cuts : List (Id × Id)} {vF : Value} {s h : Nat} {vD : Value} {b : Nat} {hl : List (Id × Value)} {b1 b2 x y : Int} (a : SI5 w own t p first puts cuts vF s h vD b hl b1 b2 x y wr) :
    wr.cell? ⟨w.heap.size, 0, none⟩ = some (.int .i64 b1) ∧ wr.cell? ⟨w.heap.size, 1, none⟩ = some (.int .i64 b2) ∧ wr.cell? ⟨w.heap.size + 1, 0, none⟩ = some (.int .i64 x) ∧ wr.cell? ⟨w.heap.size + 1, 1, none⟩ = some (.int .i64 y) ∧ wr.cell? ⟨p, 1, none⟩ = some (.map (some s)) ∧ wr.cell? ⟨p, 2, none⟩ = some (.map (some h)) :=
  ⟨a.xb.blk.cell 0, a.xb.blk.cell 1, a.xz.blk.cell 0, a.xz.blk.cell 1, a.ax.blk.cell 1, a.ax.blk.cell 2⟩
theorem idCells_hang (l : List Id) (i : Nat) (z : Id) : (idCells l).take (i * 2) ++ [.int .i64 z.1, .int .i64 z.2] ++ (idCells l).drop (i * 2) = idCells (putAt l i z) := (idCells_putAt l i z).symm

set_option maxRecDepth 100000 in
set_option maxHeartbeats 4000000 in
theorem sins_put (w : World) (own : Tags) (t p : Nat) (first : List Id) (puts cuts : List (Id × Id)) (b1 b2 x y : Int) (h : ShAt w own t p first puts cuts) (hf : Fresh own w) (ht : t ≠ 0) (hz : (x, y) ≠ (0, 0)) (hx : has first puts (x, y) = false) (hb : (b1, b2) = (0, 0) ∨ ((b1, b2) ≠ (0, 0) ∧ has first puts (b1, b2) = true)) (hlen : first.length + puts.length < 1000)
    (hwf : Wf first (puts ++ [((b1, b2), (x, y))])) :
    Calls Try.prog 30 #[.pointer (some ⟨p, 0, none⟩), .agg #[.int .i64 b1, .int .i64 b2], .agg #[.int .i64 x, .int .i64 y]] w (SAP w own t p first (puts ++ [((b1, b2), (x, y))]) cuts (.int .i64 0)) := by
  have hq : ideq x y 0 0 = false := ideq_false.2 (fun ⟨a, b⟩ => hz (by rw [a, b]))
  have hkl := kids_le puts (b1, b2)
  have hsp := Lib.hid (fun W (k : ShAt W own t p first puts cuts) => shas_c W own t p first puts cuts x y k)
  rw [hx] at hsp
  have Hwf := Lib.hid hwf
  have Hx := Lib.hid hx
  have Ht := Lib.hid ht
  have H0 := Lib.hid h
  obtain ⟨wf0, cnd0, vF, s, hh, vD, b, hl, a⟩ := h
  have Hc := Lib.hid (And.intro wf0 cnd0)
  have y0 : Box ((w.alloc (.cells #[.int .i64 b1, .int .i64 b2] 24)).alloc (.cells #[.int .i64 x, .int .i64 y] 24)) own (w.heap.size + 1) 24 #[.int .i64 x, .int .i64 y] := by
    have := Box.new (hf.alloc (.cells #[.int .i64 b1, .int .i64 b2] 24)) 24 #[.int .i64 x, .int .i64 y]
    simpa using this
  have S0 : Hid (SI5 w own t p first puts cuts vF s hh vD b hl b1 b2 x y ((w.alloc (.cells #[.int .i64 b1, .int .i64 b2] 24)).alloc (.cells #[.int .i64 x, .int .i64 y] 24))) :=
    ⟨((Below.refl _ _).alloc (Nat.le_refl _) _).alloc (by simp) _, a.keep (same2 _ _), (Box.new hf 24 #[.int .i64 b1, .int .i64 b2]).alloc (.cells #[.int .i64 x, .int .i64 y] 24), y0⟩
  clear a y0 hx hz hwf hf ht wf0 cnd0
  go_enter Try.func30, Try.ntmps30
  go_wp2_with fail
  refine (hsp.out _ (H0.out.keep (same2 _ _))).mono ?_
  rintro e w1 ⟨rfl, hB⟩
  have S1 := Lib.hid (S0.out.next hB)
  have H1 := Lib.hid ((H0.out.keep (same2 _ _)).next hB)
  clear hB S0 H0
  have hsm : ¬ ((1000 : Int) ≤ ((first.length + puts.length : Nat) : Int)) := by omega
  obtain ⟨w2, s2, hw2⟩ : ∃ P2 : World → Prop, True ∧ P2 = fun W => SI5 w own t p first puts cuts vF s hh vD b hl b1 b2 x y W := ⟨_, trivial, rfl⟩
  clear s2 hw2 w2
  rcases hb with hb | ⟨hb, hbx⟩

  · have hq2 : ideq b1 b2 0 0 = true := ideq_true.2 ⟨congrArg Prod.fst hb, congrArg Prod.snd hb⟩
    clear hb
    obtain ⟨w2, S2, H2, hE⟩ : ∃ w2, Hid (SI5 w own t p first puts cuts vF s hh vD b hl b1 b2 x y w2) ∧ Hid (ShAt w2 own t p first puts cuts) ∧ w2 = w1 := ⟨w1, S1, H1, rfl⟩
    rw [← hE]
    clear hE S1 H1
    obtain ⟨e0, e1, f0, f1, c1, c2⟩ := S2.out.cells
    have hln := S2.out.ax.mS.len Try.underlying95 3
    rw [length_there] at hln
    go_wp2_with fail
    refine (prep_c w2 own t p first puts cuts H2.out).mono ?_
    rintro e w3 ⟨rfl, rfl⟩
    clear hln H2
    have hlk := fun (nq : Nat) => MapIs.look (w := w3.drewN nq) S2.out.ax.mH Try.underlying97 (zero22 _) (b1, b2) false
    simp only [idv, Bool.false_eq_true, if_false] at hlk
    have hrow := S2.out.ax.hang (b1, b2)
    obtain ⟨vh, hvh⟩ : ∃ vh, (getKV (b1, b2) hl).getD (.slice none 0 0) = vh := ⟨_, rfl⟩
    rw [hvh] at hrow
    simp only [hvh] at hlk
    have Hvh := Lib.hid hvh
    obtain ⟨AV, cV, rfl, _⟩ := hrow.form
    have HR := Lib.hid hrow
    obtain ⟨K, hK⟩ : ∃ K, kids puts (b1, b2) = K := ⟨_, rfl⟩
    rw [hK] at HR hlk hkl
    have HK := Lib.hid hK
    clear hvh hK hrow
    go_wp2_with fail
    go_quiet (fail)
    clear hlk e0 e1 f0 f1 c1 c2
    have S3 := Lib.hid (S2.out.next (w' := w3.drewN nq) ⟨rfl, rfl, rfl, Nat.le_refl _, fun _ _ => rfl⟩)
    clear S2
    generalize w3.drewN nq = W3 at *
    go_wp2_with fail
    go_loopw [8] (fun i wr => ∃ k : Nat, k ≤ K.length ∧ i = .int .i64 k ∧ Hid (∀ j, j < k → ∃ z, K[j]? = some z ∧ bef (x, y) z = true) ∧ SI5 w own t p first puts cuts vF s hh vD b hl b1 b2 x y wr) (fun i _ => K.length - (intOf i).toNat)
    case atStart => exact ⟨0, Nat.zero_le _, rfl, (fun j hj => absurd hj (by omega)), S3.out⟩
    case round =>
      clear S3 HR
      obtain ⟨k, hk, rfl, hno, s0⟩ := hrel
      have hrow := s0.ax.hang (b1, b2)
      rw [Hvh.out, HK.out] at hrow
      obtain ⟨e0, e1, f0, f1, c1, c2⟩ := s0.cells
      have S0 := Lib.hid s0
      have R0 := Lib.hid hrow
      clear s0
      by_cases hlt : k < K.length
      · obtain ⟨bV, oV, rfl, _, _, hc⟩ := hrow.toIdsR.2 (fun e => by rw [e] at hlt; simp at hlt)
        obtain ⟨g1, g2⟩ := hc k hlt
        have hz := Lib.hid (List.getElem?_eq_getElem hlt)
        clear hc hrow
        generalize K[k] = z at *
        obtain ⟨z1, z2⟩ := z
        dsimp only at g1 g2
        have hk0 : (0 : Int) ≤ (k : Int) := by omega
        have hkn : (k : Int) < (K.length : Int) := by omega
        have hd : decide (k < K.length) = true := by simp; omega
        have HC : AllCells wr.drew [(⟨w.heap.size + 1, 0, none⟩, .int .i64 x), (⟨w.heap.size + 1, 1, none⟩, .int .i64 y), (⟨bV, oV + k * 2, none⟩, .int .i64 z1), (⟨bV, oV + k * 2 + 1, none⟩, .int .i64 z2)] := ⟨f0, f1, g1, g2, trivial⟩
        have bl : Below wr.heap.size wr wr.drew := (Below.refl _ _).drew
        have HCB := Lib.hid (fun (W : World) (hb : Below wr.drew.heap.size wr.drew W) => AllCells.below HC hb)
        have S1 := Lib.hid (S0.out.next bl)
        clear bl S0 e0 e1 c1 c2
        go_wp2_with fail
        refine region_free _ [0, 1, 2, 3, 4, 5, 6, 7, 8, 9] 2 (by kernel_rfl) (by kernel_rfl) (by kernel_rfl) (by kernel_rfl) (by kernel_rfl) (fun _ _ _ _ _ h => h) HC ?_
        intro hne hu
        simp only [AllCells] at hu
        simp only [pick, List.take_succ_cons, List.take_zero, List.drop_succ_cons, List.drop_zero, List.cons_append, List.nil_append]
        repeat (go_big_quiet_step (fail))
        refine wpQuiet_nil ?_
        clear hne hu
        refine anyN_oneL 10 (by kernel_rfl) ?_
        simp only [List.take_succ_cons, List.take_zero, List.drop_succ_cons, List.drop_zero]
        go_wp2_with fail
        refine (bef_c wr.drew x y z1 z2).mono ?_
        rintro e w4 ⟨rfl, hB⟩
        have S4 := Lib.hid (S1.out.next hB)
        have C4 := Lib.hid (HCB.out w4 hB)
        clear hB S1 HCB HC f0 f1 g1 g2
        cases hbf : bef (x, y) (z1, z2)
        · have Hsc := Lib.hid (scan_spec (x, y) K k hno.out (.inr ⟨_, hz.out, hbf⟩))
          clear hbf hd hkn
          go_wp2_with fail
          refine And.intro (fun _ => C4.out) ?_
          refine anyN_more [11] 0 (by kernel_rfl) (by kernel_rfl) (by kernel_rfl) (by kernel_rfl) (fun _ _ _ _ _ h => h) C4.out ?_
          intro hne hu
          simp only [AllCells] at hu
          simp only [pick, List.take_succ_cons, List.take_zero, List.drop_succ_cons, List.drop_zero, List.cons_append, List.nil_append]
          repeat (go_big_quiet_step (fail))
          refine wpQuiet_nil ?_
          clear hne hu
          refine ⟨by kernel_rfl, ?_⟩
          clear C4
          have hrow := S4.out.ax.hang (b1, b2)
          rw [Hvh.out, HK.out] at hrow
          have R4 := Lib.hid hrow
          clear hrow
          have e2 : Below w4.heap.size w4 (w4.alloc (.cells #[.int .i64 x, .int .i64 y] 24)).drew := ((Below.refl _ _).alloc (Nat.le_refl _) _).drew
          obtain ⟨e0, e1, f0, f1, c1, c2⟩ := S4.out.cells
          have HC : AllCells w4.drew [(⟨p, 2, none⟩, .map (some hh)), (⟨w.heap.size, 0, none⟩, .int .i64 b1), (⟨w.heap.size, 1, none⟩, .int .i64 b2), (⟨w.heap.size + 1, 0, none⟩, .int .i64 x), (⟨w.heap.size + 1, 1, none⟩, .int .i64 y)] := ⟨c2, e0, e1, f0, f1, trivial⟩
          have S5 := Lib.hid (S4.out.next e2)
          have R5 := Lib.hid (R4.out.keep (Same.below e2))
          have HC5 := Lib.hid (AllCells.below (show AllCells w4 [(⟨p, 2, none⟩, .map (some hh)), (⟨w.heap.size, 0, none⟩, .int .i64 b1), (⟨w.heap.size, 1, none⟩, .int .i64 b2), (⟨w.heap.size + 1, 0, none⟩, .int .i64 x), (⟨w.heap.size + 1, 1, none⟩, .int .i64 y)] from ⟨c2, e0, e1, f0, f1, trivial⟩) e2)
          have hvb := Lib.hid (show Blk (w4.alloc (.cells #[.int .i64 x, .int .i64 y] 24)).drew w4.heap.size 24 [.int .i64 x, .int .i64 y].toArray from Blk.new w4 24 _)
          have hnvb := Lib.hid (show (Value.slice (some ⟨bV, oV, none⟩) K.length cV).ownBlock ≠ some w4.heap.size from fun e => by have := (R4.out.1.lt _ e).2; omega)
          clear e0 e1 f0 f1 c1 c2 e2 S4 R4
          go_wp2_with fail
          refine region_free _ [0, 1, 2, 3, 4, 5, 6, 7] 3 (by kernel_rfl) (by kernel_rfl) (by kernel_rfl) (by kernel_rfl) (by kernel_rfl) (fun _ _ _ _ _ h => h) HC ?_
          intro hne hu
          simp only [AllCells] at hu
          simp only [pick, List.take_succ_cons, List.take_zero, List.drop_succ_cons, List.drop_zero, List.cons_append, List.nil_append]
          repeat (go_big_quiet_step (fail))
          refine wpQuiet_nil ?_
          clear hne hu
          refine anyN_oneL 8 (by kernel_rfl) ?_
          simp only [List.take_succ_cons, List.take_zero, List.drop_succ_cons, List.drop_zero]
          go_wp2_with fail
          refine And.intro (fun _ => HC5.out) ?_
          clear HC
          refine anyN_oneL 9 (by kernel_rfl) ?_
          simp only [List.take_succ_cons, List.take_zero, List.drop_succ_cons, List.drop_zero]
          go_wp2_with fail
          generalize (w4.alloc (.cells #[.int .i64 x, .int .i64 y] 24)).drew = W5 at *
          generalize w4.heap.size = V at *
          refine (insI_c _ K.length k V (idCells K) [.int .i64 x, .int .i64 y] W5 R5.out.1 (by omega) (by omega) hnvb.out hvb.out rfl (by simp [Value.oneCell']) (idCells_one K)).mono ?_
          rintro e w6 ⟨gN, cN, rfl, hg6, hr6, hat6⟩
          rw [idCells_hang K k (x, y)] at hr6
          have nb : ∀ X, own X = 0 → (Value.slice (some ⟨bV, oV, none⟩) K.length cV).ownBlock ≠ some X := fun X h0 e => by
            have := R5.out.2 X e
            rw [h0] at this
            exact Ht.out this.symm
          have b6 := S5.out.ax.blk.past hg6 (R5.out.not_blk S5.out.ax.blk (by decide))
          have xb6 := S5.out.xb.blk.past hg6 (nb _ S5.out.xb.zero)
          have xz6 := S5.out.xz.blk.past hg6 (nb _ S5.out.xz.zero)
          have mH6 := S5.out.ax.mH.past hg6 (R5.out.not_map S5.out.ax.mH)
          have mS6 := S5.out.ax.mS.past hg6 (R5.out.not_map S5.out.ax.mS)
          have HC6 : Hid (AllCells w6 [(⟨p, 2, none⟩, .map (some hh)), (⟨w.heap.size, 0, none⟩, .int .i64 b1), (⟨w.heap.size, 1, none⟩, .int .i64 b2), (⟨w.heap.size + 1, 0, none⟩, .int .i64 x), (⟨w.heap.size + 1, 1, none⟩, .int .i64 y)]) := ⟨b6.cell 2, xb6.cell 0, xb6.cell 1, xz6.cell 0, xz6.cell 1, trivial⟩
          have G6 := Lib.hid hg6
          have RR6 := Lib.hid hr6
          have AT6 := Lib.hid hat6
          have B6 := Lib.hid (And.intro b6 (And.intro xb6 (And.intro xz6 (And.intro mH6 mS6))))
          clear hg6 hr6 hat6 b6 xb6 xz6 mH6 mS6 nb hvb hnvb HC5
          go_wp2_with fail
          refine And.intro (fun _ => HC6.out) ?_
          refine anyN_oneL 10 (by kernel_rfl) ?_
          simp only [List.take_succ_cons, List.take_zero, List.drop_succ_cons, List.drop_zero]
          refine wpList_mapUpdate_id w6 rfl _ _ _ 97 rfl 22 Try.underlying97 hh hl rfl B6.out.2.2.2.1 b1 b2 _ rfl rfl ?_
          intro w7 hm7 hg7
          have mne : ∀ {X e cs}, Blk w6 X e cs → (some hh : Option Nat) ≠ some X := fun hb e => hb.ne_map B6.out.2.2.2.1 (Option.some.inj e).symm
          have b7 := B6.out.1.past hg7 (mne B6.out.1)
          have xb7 := B6.out.2.1.past hg7 (mne B6.out.2.1)
          have xz7 := B6.out.2.2.1.past hg7 (mne B6.out.2.2.1)
          have mS7 := B6.out.2.2.2.2.past hg7 (fun e => S5.out.ax.sh (Option.some.inj e).symm)
          have HC7 : Hid (AllCells w7 [(⟨p, 2, none⟩, .map (some hh)), (⟨w.heap.size, 0, none⟩, .int .i64 b1), (⟨w.heap.size, 1, none⟩, .int .i64 b2), (⟨w.heap.size + 1, 0, none⟩, .int .i64 x), (⟨w.heap.size + 1, 1, none⟩, .int .i64 y)]) := ⟨b7.cell 2, xb7.cell 0, xb7.cell 1, xz7.cell 0, xz7.cell 1, trivial⟩
          have HD7 : AllCells w7.drew [(⟨p, 1, none⟩, .map (some s)), (⟨w.heap.size + 1, 0, none⟩, .int .i64 x), (⟨w.heap.size + 1, 1, none⟩, .int .i64 y)] := ⟨b7.cell 1, xz7.cell 0, xz7.cell 1, trivial⟩
          have M7 := Lib.hid hm7
          have G7 := Lib.hid hg7
          have MS7 := Lib.hid (mS7.kept (w' := w7.drew) rfl)
          have B7 := Lib.hid (And.intro b7 xz7)
          clear hm7 hg7 b7 xb7 xz7 mS7 mne B6
          simp only [Exit.then]
          refine And.intro (fun _ => HC7.out) ?_
          refine ⟨by kernel_rfl, ?_⟩
          clear HC7 HC6
          simp only [Act.put]
          go_wp2_with fail
          refine region_free _ [0, 1, 2, 3, 4] 1 (by kernel_rfl) (by kernel_rfl) (by kernel_rfl) (by kernel_rfl) (by kernel_rfl) (fun _ _ _ _ _ h => h) HD7 ?_
          intro hne hu
          simp only [AllCells] at hu
          simp only [pick, List.take_succ_cons, List.take_zero, List.drop_succ_cons, List.drop_zero, List.cons_append, List.nil_append]
          repeat (go_big_quiet_step (fail))
          refine wpQuiet_nil ?_
          clear hne hu
          refine anyN_oneL 5 (by kernel_rfl) ?_
          simp only [List.take_succ_cons, List.take_zero, List.drop_succ_cons, List.drop_zero]
          refine wpList_mapUpdate_id w7.drew rfl _ _ _ 95 rfl 4 Try.underlying95 s (thereOf first puts) rfl MS7.out x y (.bool true) rfl rfl ?_
          intro w8 hm8 hg8
          have mne : ∀ {X e cs}, Blk w7 X e cs → (some s : Option Nat) ≠ some X := fun hb e => hb.ne_map (MS7.out.kept (w' := w7) rfl) (Option.some.inj e).symm
          have b8 := (B7.out.1.kept (w' := w7.drew) rfl).past hg8 (mne B7.out.1)
          have xz8 := (B7.out.2.kept (w' := w7.drew) rfl).past hg8 (mne B7.out.2)
          obtain ⟨own8, tr8, is8⟩ := S5.out.ax.put3 (b1, b2) (x, y) (w1 := w6) (w2 := w7) (w3 := w7.drew) (w4 := w8) (g := gN) (c := cN) Hx.out (by rw [Hvh.out, HK.out]; exact G6.out) (by rw [HK.out]; unfold hangAdd; rw [Hsc.out]; exact RR6.out) (by rw [Hvh.out, HK.out]; exact AT6.out) (by rw [HK.out]; exact M7.out) G7.out ((Below.refl _ _).drew) hm8 hg8
          have FIN := Lib.hid (show SAP w own t p first (puts ++ [((b1, b2), (x, y))]) cuts (.int .i64 0) (.returned (.int .i64 0)) w8 from ⟨rfl, own8, ((Tr.refl own t w).below S5.out.below).trans tr8, Hwf.out, Hc.out.2, _, _, _, _, _, _, is8⟩)
          have HC8 : Hid (AllCells w8 [(⟨p, 1, none⟩, .map (some s)), (⟨w.heap.size + 1, 0, none⟩, .int .i64 x), (⟨w.heap.size + 1, 1, none⟩, .int .i64 y)]) := ⟨b8.cell 1, xz8.cell 0, xz8.cell 1, trivial⟩
          clear hm8 hg8 b8 xz8 mne tr8 is8 S5 HD7 M7 G7 MS7 B7 G6 RR6 AT6 R5
          simp only [Exit.then]
          refine And.intro (fun _ => HC8.out) ?_
          refine ⟨by kernel_rfl, ?_⟩
          simp only [Act.put]
          go_wp2_with fail
          go_ret
          exact FIN.out
        · have hno2 : Hid (∀ j, j < k + 1 → ∃ z, K[j]? = some z ∧ bef (x, y) z = true) := fun j hj => by
            by_cases hjk : j < k
            · exact hno.out j hjk
            · have : j = k := by omega
              subst this
              exact ⟨_, hz.out, hbf⟩
          clear hbf
          go_wp2_with fail
          refine And.intro (fun _ => C4.out) ?_
          refine anyN_more [11] 0 (by kernel_rfl) (by kernel_rfl) (by kernel_rfl) (by kernel_rfl) (fun _ _ _ _ _ h => h) C4.out ?_
          intro hne hu
          simp only [AllCells] at hu
          simp only [pick, List.take_succ_cons, List.take_zero, List.drop_succ_cons, List.drop_zero, List.cons_append, List.nil_append]
          repeat (go_big_quiet_step (fail))
          refine wpQuiet_nil ?_
          clear hne hu
          refine ⟨by kernel_rfl, ?_⟩
          clear C4
          go_wp2_with fail
          go_roundw
          case rel => exact ⟨k + 1, by omega, by go_num, hno2, S4.out⟩
          case measure => simp [intOf]; omega
      · have hkk : k = K.length := by omega
        subst hkk
        have Hsc := Lib.hid (scan_spec (x, y) K K.length hno.out (.inl rfl))
        have HC : AllCells wr.drew [(⟨w.heap.size + 1, 0, none⟩, .int .i64 x), (⟨w.heap.size + 1, 1, none⟩, .int .i64 y)] := ⟨f0, f1, trivial⟩
        have S1 := Lib.hid (S0.out.next (w' := wr.drew) ((Below.refl _ _).drew))
        clear hrow S0 e0 e1 c1 c2 f0 f1
        go_wp2_with fail
        refine region_free _ [0, 1, 2, 3, 4, 5, 6, 7, 8, 9] 2 (by kernel_rfl) (by kernel_rfl) (by kernel_rfl) (by kernel_rfl) (by kernel_rfl) (fun _ _ _ _ _ h => h) HC ?_
        intro hne hu
        simp only [AllCells] at hu
        simp only [pick, List.take_succ_cons, List.take_zero, List.drop_succ_cons, List.drop_zero, List.cons_append, List.nil_append]
        repeat (go_big_quiet_step (fail))
        refine wpQuiet_nil ?_
        clear hne hu
        refine anyN_oneL 10 (by kernel_rfl) ?_
        simp only [List.take_succ_cons, List.take_zero, List.drop_succ_cons, List.drop_zero]
        go_wp2_with fail
        refine And.intro (fun _ => HC) ?_
        refine anyN_more [11] 0 (by kernel_rfl) (by kernel_rfl) (by kernel_rfl) (by kernel_rfl) (fun _ _ _ _ _ h => h) HC ?_
        intro hne hu
        simp only [AllCells] at hu
        simp only [pick, List.take_succ_cons, List.take_zero, List.drop_succ_cons, List.drop_zero, List.cons_append, List.nil_append]
        repeat (go_big_quiet_step (fail))
        refine wpQuiet_nil ?_
        clear hne hu
        refine ⟨by kernel_rfl, ?_⟩
        clear HC
        have S4 := S1
        clear S1
        have hrow := S4.out.ax.hang (b1, b2)
        rw [Hvh.out, HK.out] at hrow
        have R4 := Lib.hid hrow
        clear hrow R0
        obtain ⟨w4, hw4⟩ : ∃ u, u = wr.drew := ⟨_, rfl⟩
        rw [← hw4] at S4 R4 ⊢
        clear hw4
        have e2 : Below w4.heap.size w4 (w4.alloc (.cells #[.int .i64 x, .int .i64 y] 24)).drew := ((Below.refl _ _).alloc (Nat.le_refl _) _).drew
        obtain ⟨e0, e1, f0, f1, c1, c2⟩ := S4.out.cells
        have HC : AllCells w4.drew [(⟨p, 2, none⟩, .map (some hh)), (⟨w.heap.size, 0, none⟩, .int .i64 b1), (⟨w.heap.size, 1, none⟩, .int .i64 b2), (⟨w.heap.size + 1, 0, none⟩, .int .i64 x), (⟨w.heap.size + 1, 1, none⟩, .int .i64 y)] := ⟨c2, e0, e1, f0, f1, trivial⟩
        have S5 := Lib.hid (S4.out.next e2)
        have R5 := Lib.hid (R4.out.keep (Same.below e2))
        have HC5 := Lib.hid (AllCells.below (show AllCells w4 [(⟨p, 2, none⟩, .map (some hh)), (⟨w.heap.size, 0, none⟩, .int .i64 b1), (⟨w.heap.size, 1, none⟩, .int .i64 b2), (⟨w.heap.size + 1, 0, none⟩, .int .i64 x), (⟨w.heap.size + 1, 1, none⟩, .int .i64 y)] from ⟨c2, e0, e1, f0, f1, trivial⟩) e2)
        have hvb := Lib.hid (show Blk (w4.alloc (.cells #[.int .i64 x, .int .i64 y] 24)).drew w4.heap.size 24 [.int .i64 x, .int .i64 y].toArray from Blk.new w4 24 _)
        have hnvb := Lib.hid (show (Value.slice AV K.length cV).ownBlock ≠ some w4.heap.size from fun e => by have := (R4.out.1.lt _ e).2; omega)
        clear e0 e1 f0 f1 c1 c2 e2 S4 R4
        go_wp2_with fail
        refine region_free _ [0, 1, 2, 3, 4, 5, 6, 7] 3 (by kernel_rfl) (by kernel_rfl) (by kernel_rfl) (by kernel_rfl) (by kernel_rfl) (fun _ _ _ _ _ h => h) HC ?_
        intro hne hu
        simp only [AllCells] at hu
        simp only [pick, List.take_succ_cons, List.take_zero, List.drop_succ_cons, List.drop_zero, List.cons_append, List.nil_append]
        repeat (go_big_quiet_step (fail))
        refine wpQuiet_nil ?_
        clear hne hu
        refine anyN_oneL 8 (by kernel_rfl) ?_
        simp only [List.take_succ_cons, List.take_zero, List.drop_succ_cons, List.drop_zero]
        go_wp2_with fail
        refine And.intro (fun _ => HC5.out) ?_
        clear HC
        refine anyN_oneL 9 (by kernel_rfl) ?_
        simp only [List.take_succ_cons, List.take_zero, List.drop_succ_cons, List.drop_zero]
        go_wp2_with fail
        generalize (w4.alloc (.cells #[.int .i64 x, .int .i64 y] 24)).drew = W5 at *
        generalize w4.heap.size = V at *
        refine (insI_c _ K.length K.length V (idCells K) [.int .i64 x, .int .i64 y] W5 R5.out.1 (by omega) (by omega) hnvb.out hvb.out rfl (by simp [Value.oneCell']) (idCells_one K)).mono ?_
        rintro e w6 ⟨gN, cN, rfl, hg6, hr6, hat6⟩
        rw [idCells_hang K K.length (x, y)] at hr6
        have nb : ∀ X, own X = 0 → (Value.slice AV K.length cV).ownBlock ≠ some X := fun X h0 e => by
          have := R5.out.2 X e
          rw [h0] at this
          exact Ht.out this.symm
        have b6 := S5.out.ax.blk.past hg6 (R5.out.not_blk S5.out.ax.blk (by decide))
        have xb6 := S5.out.xb.blk.past hg6 (nb _ S5.out.xb.zero)
        have xz6 := S5.out.xz.blk.past hg6 (nb _ S5.out.xz.zero)
        have mH6 := S5.out.ax.mH.past hg6 (R5.out.not_map S5.out.ax.mH)
        have mS6 := S5.out.ax.mS.past hg6 (R5.out.not_map S5.out.ax.mS)
        have HC6 : Hid (AllCells w6 [(⟨p, 2, none⟩, .map (some hh)), (⟨w.heap.size, 0, none⟩, .int .i64 b1), (⟨w.heap.size, 1, none⟩, .int .i64 b2), (⟨w.heap.size + 1, 0, none⟩, .int .i64 x), (⟨w.heap.size + 1, 1, none⟩, .int .i64 y)]) := ⟨b6.cell 2, xb6.cell 0, xb6.cell 1, xz6.cell 0, xz6.cell 1, trivial⟩
        have G6 := Lib.hid hg6
        have RR6 := Lib.hid hr6
        have AT6 := Lib.hid hat6
        have B6 := Lib.hid (And.intro b6 (And.intro xb6 (And.intro xz6 (And.intro mH6 mS6))))
        clear hg6 hr6 hat6 b6 xb6 xz6 mH6 mS6 nb hvb hnvb HC5
        go_wp2_with fail
        refine And.intro (fun _ => HC6.out) ?_
        refine anyN_oneL 10 (by kernel_rfl) ?_
        simp only [List.take_succ_cons, List.take_zero, List.drop_succ_cons, List.drop_zero]
        refine wpList_mapUpdate_id w6 rfl _ _ _ 97 rfl 22 Try.underlying97 hh hl rfl B6.out.2.2.2.1 b1 b2 _ rfl rfl ?_
        intro w7 hm7 hg7
        have mne : ∀ {X e cs}, Blk w6 X e cs → (some hh : Option Nat) ≠ some X := fun hb e => hb.ne_map B6.out.2.2.2.1 (Option.some.inj e).symm
        have b7 := B6.out.1.past hg7 (mne B6.out.1)
        have xb7 := B6.out.2.1.past hg7 (mne B6.out.2.1)
        have xz7 := B6.out.2.2.1.past hg7 (mne B6.out.2.2.1)
        have mS7 := B6.out.2.2.2.2.past hg7 (fun e => S5.out.ax.sh (Option.some.inj e).symm)
        have HC7 : Hid (AllCells w7 [(⟨p, 2, none⟩, .map (some hh)), (⟨w.heap.size, 0, none⟩, .int .i64 b1), (⟨w.heap.size, 1, none⟩, .int .i64 b2), (⟨w.heap.size + 1, 0, none⟩, .int .i64 x), (⟨w.heap.size + 1, 1, none⟩, .int .i64 y)]) := ⟨b7.cell 2, xb7.cell 0, xb7.cell 1, xz7.cell 0, xz7.cell 1, trivial⟩
        have HD7 : AllCells w7.drew [(⟨p, 1, none⟩, .map (some s)), (⟨w.heap.size + 1, 0, none⟩, .int .i64 x), (⟨w.heap.size + 1, 1, none⟩, .int .i64 y)] := ⟨b7.cell 1, xz7.cell 0, xz7.cell 1, trivial⟩
        have M7 := Lib.hid hm7
        have G7 := Lib.hid hg7
        have MS7 := Lib.hid (mS7.kept (w' := w7.drew) rfl)
        have B7 := Lib.hid (And.intro b7 xz7)
        clear hm7 hg7 b7 xb7 xz7 mS7 mne B6
        simp only [Exit.then]
        refine And.intro (fun _ => HC7.out) ?_
        refine ⟨by kernel_rfl, ?_⟩
        clear HC7 HC6
        simp only [Act.put]
        go_wp2_with fail
        refine region_free _ [0, 1, 2, 3, 4] 1 (by kernel_rfl) (by kernel_rfl) (by kernel_rfl) (by kernel_rfl) (by kernel_rfl) (fun _ _ _ _ _ h => h) HD7 ?_
        intro hne hu
        simp only [AllCells] at hu
        simp only [pick, List.take_succ_cons, List.take_zero, List.drop_succ_cons, List.drop_zero, List.cons_append, List.nil_append]
        repeat (go_big_quiet_step (fail))
        refine wpQuiet_nil ?_
        clear hne hu
        refine anyN_oneL 5 (by kernel_rfl) ?_
        simp only [List.take_succ_cons, List.take_zero, List.drop_succ_cons, List.drop_zero]
        refine wpList_mapUpdate_id w7.drew rfl _ _ _ 95 rfl 4 Try.underlying95 s (thereOf first puts) rfl MS7.out x y (.bool true) rfl rfl ?_
        intro w8 hm8 hg8
        have mne : ∀ {X e cs}, Blk w7 X e cs → (some s : Option Nat) ≠ some X := fun hb e => hb.ne_map (MS7.out.kept (w' := w7) rfl) (Option.some.inj e).symm
        have b8 := (B7.out.1.kept (w' := w7.drew) rfl).past hg8 (mne B7.out.1)
        have xz8 := (B7.out.2.kept (w' := w7.drew) rfl).past hg8 (mne B7.out.2)
        obtain ⟨own8, tr8, is8⟩ := S5.out.ax.put3 (b1, b2) (x, y) (w1 := w6) (w2 := w7) (w3 := w7.drew) (w4 := w8) (g := gN) (c := cN) Hx.out (by rw [Hvh.out, HK.out]; exact G6.out) (by rw [HK.out]; unfold hangAdd; rw [Hsc.out]; exact RR6.out) (by rw [Hvh.out, HK.out]; exact AT6.out) (by rw [HK.out]; exact M7.out) G7.out ((Below.refl _ _).drew) hm8 hg8
        have FIN := Lib.hid (show SAP w own t p first (puts ++ [((b1, b2), (x, y))]) cuts (.int .i64 0) (.returned (.int .i64 0)) w8 from ⟨rfl, own8, ((Tr.refl own t w).below S5.out.below).trans tr8, Hwf.out, Hc.out.2, _, _, _, _, _, _, is8⟩)
        have HC8 : Hid (AllCells w8 [(⟨p, 1, none⟩, .map (some s)), (⟨w.heap.size + 1, 0, none⟩, .int .i64 x), (⟨w.heap.size + 1, 1, none⟩, .int .i64 y)]) := ⟨b8.cell 1, xz8.cell 0, xz8.cell 1, trivial⟩
        clear hm8 hg8 b8 xz8 mne tr8 is8 S5 HD7 M7 G7 MS7 B7 G6 RR6 AT6 R5
        simp only [Exit.then]
        refine And.intro (fun _ => HC8.out) ?_
        refine ⟨by kernel_rfl, ?_⟩
        simp only [Act.put]
        go_wp2_with fail
        go_ret
        exact FIN.out
  · have hq2 : ideq b1 b2 0 0 = false := ideq_false.2 (fun ⟨a, b⟩ => hb (by rw [a, b]))
    have hsq := Lib.hid (shas_c w1 own t p first puts cuts b1 b2 H1.out)
    rw [hbx] at hsq
    clear hb hbx
    obtain ⟨e0, e1, f0, f1, c1, c2⟩ := S1.out.cells
    go_wp2_with fail
    refine hsq.out.mono ?_
    rintro e w2 ⟨rfl, hB2⟩
    have S2 := Lib.hid (S1.out.next hB2)
    have H2 := Lib.hid (H1.out.next hB2)
    clear hB2 S1 H1 hsq e0 e1 f0 f1 c1 c2
    obtain ⟨e0, e1, f0, f1, c1, c2⟩ := S2.out.cells
    have hln := S2.out.ax.mS.len Try.underlying95 3
    rw [length_there] at hln
    go_wp2_with fail
    refine (prep_c w2 own t p first puts cuts H2.out).mono ?_
    rintro e w3 ⟨rfl, rfl⟩
    clear hln H2
    have hlk := fun (nq : Nat) => MapIs.look (w := w3.drewN nq) S2.out.ax.mH Try.underlying97 (zero22 _) (b1, b2) false
    simp only [idv, Bool.false_eq_true, if_false] at hlk
    have hrow := S2.out.ax.hang (b1, b2)
    obtain ⟨vh, hvh⟩ : ∃ vh, (getKV (b1, b2) hl).getD (.slice none 0 0) = vh := ⟨_, rfl⟩
    rw [hvh] at hrow
    simp only [hvh] at hlk
    have Hvh := Lib.hid hvh
    obtain ⟨AV, cV, rfl, _⟩ := hrow.form
    have HR := Lib.hid hrow
    obtain ⟨K, hK⟩ : ∃ K, kids puts (b1, b2) = K := ⟨_, rfl⟩
    rw [hK] at HR hlk hkl
    have HK := Lib.hid hK
    clear hvh hK hrow
    go_wp2_with fail
    go_quiet (fail)
    clear hlk e0 e1 f0 f1 c1 c2
    have S3 := Lib.hid (S2.out.next (w' := w3.drewN nq) ⟨rfl, rfl, rfl, Nat.le_refl _, fun _ _ => rfl⟩)
    clear S2
    generalize w3.drewN nq = W3 at *
    go_wp2_with fail
    go_loopw [8] (fun i wr => ∃ k : Nat, k ≤ K.length ∧ i = .int .i64 k ∧ Hid (∀ j, j < k → ∃ z, K[j]? = some z ∧ bef (x, y) z = true) ∧ SI5 w own t p first puts cuts vF s hh vD b hl b1 b2 x y wr) (fun i _ => K.length - (intOf i).toNat)
    case atStart => exact ⟨0, Nat.zero_le _, rfl, (fun j hj => absurd hj (by omega)), S3.out⟩
    case round =>
      clear S3 HR
      obtain ⟨k, hk, rfl, hno, s0⟩ := hrel
      have hrow := s0.ax.hang (b1, b2)
      rw [Hvh.out, HK.out] at hrow
      obtain ⟨e0, e1, f0, f1, c1, c2⟩ := s0.cells
      have S0 := Lib.hid s0
      have R0 := Lib.hid hrow
      clear s0
      by_cases hlt : k < K.length
      · obtain ⟨bV, oV, rfl, _, _, hc⟩ := hrow.toIdsR.2 (fun e => by rw [e] at hlt; simp at hlt)
        obtain ⟨g1, g2⟩ := hc k hlt
        have hz := Lib.hid (List.getElem?_eq_getElem hlt)
        clear hc hrow
        generalize K[k] = z at *
        obtain ⟨z1, z2⟩ := z
        dsimp only at g1 g2
        have hk0 : (0 : Int) ≤ (k : Int) := by omega
        have hkn : (k : Int) < (K.length : Int) := by omega
        have hd : decide (k < K.length) = true := by simp; omega
        have HC : AllCells wr.drew [(⟨w.heap.size + 1, 0, none⟩, .int .i64 x), (⟨w.heap.size + 1, 1, none⟩, .int .i64 y), (⟨bV, oV + k * 2, none⟩, .int .i64 z1), (⟨bV, oV + k * 2 + 1, none⟩, .int .i64 z2)] := ⟨f0, f1, g1, g2, trivial⟩
        have bl : Below wr.heap.size wr wr.drew := (Below.refl _ _).drew
        have HCB := Lib.hid (fun (W : World) (hb : Below wr.drew.heap.size wr.drew W) => AllCells.below HC hb)
        have S1 := Lib.hid (S0.out.next bl)
        clear bl S0 e0 e1 c1 c2
        go_wp2_with fail
        refine region_free _ [0, 1, 2, 3, 4, 5, 6, 7, 8, 9] 2 (by kernel_rfl) (by kernel_rfl) (by kernel_rfl) (by kernel_rfl) (by kernel_rfl) (fun _ _ _ _ _ h => h) HC ?_
        intro hne hu
        simp only [AllCells] at hu
        simp only [pick, List.take_succ_cons, List.take_zero, List.drop_succ_cons, List.drop_zero, List.cons_append, List.nil_append]
        repeat (go_big_quiet_step (fail))
        refine wpQuiet_nil ?_
        clear hne hu
        refine anyN_oneL 10 (by kernel_rfl) ?_
        simp only [List.take_succ_cons, List.take_zero, List.drop_succ_cons, List.drop_zero]
        go_wp2_with fail
        refine (bef_c wr.drew x y z1 z2).mono ?_
        rintro e w4 ⟨rfl, hB⟩
        have S4 := Lib.hid (S1.out.next hB)
        have C4 := Lib.hid (HCB.out w4 hB)
        clear hB S1 HCB HC f0 f1 g1 g2
        cases hbf : bef (x, y) (z1, z2)
        · have Hsc := Lib.hid (scan_spec (x, y) K k hno.out (.inr ⟨_, hz.out, hbf⟩))
          clear hbf hd hkn
          go_wp2_with fail
          refine And.intro (fun _ => C4.out) ?_
          refine anyN_more [11] 0 (by kernel_rfl) (by kernel_rfl) (by kernel_rfl) (by kernel_rfl) (fun _ _ _ _ _ h => h) C4.out ?_
          intro hne hu
          simp only [AllCells] at hu
          simp only [pick, List.take_succ_cons, List.take_zero, List.drop_succ_cons, List.drop_zero, List.cons_append, List.nil_append]
          repeat (go_big_quiet_step (fail))
          refine wpQuiet_nil ?_
          clear hne hu
          refine ⟨by kernel_rfl, ?_⟩
          clear C4
          have hrow := S4.out.ax.hang (b1, b2)
          rw [Hvh.out, HK.out] at hrow
          have R4 := Lib.hid hrow
          clear hrow
          have e2 : Below w4.heap.size w4 (w4.alloc (.cells #[.int .i64 x, .int .i64 y] 24)).drew := ((Below.refl _ _).alloc (Nat.le_refl _) _).drew
          obtain ⟨e0, e1, f0, f1, c1, c2⟩ := S4.out.cells
          have HC : AllCells w4.drew [(⟨p, 2, none⟩, .map (some hh)), (⟨w.heap.size, 0, none⟩, .int .i64 b1), (⟨w.heap.size, 1, none⟩, .int .i64 b2), (⟨w.heap.size + 1, 0, none⟩, .int .i64 x), (⟨w.heap.size + 1, 1, none⟩, .int .i64 y)] := ⟨c2, e0, e1, f0, f1, trivial⟩
          have S5 := Lib.hid (S4.out.next e2)
          have R5 := Lib.hid (R4.out.keep (Same.below e2))
          have HC5 := Lib.hid (AllCells.below (show AllCells w4 [(⟨p, 2, none⟩, .map (some hh)), (⟨w.heap.size, 0, none⟩, .int .i64 b1), (⟨w.heap.size, 1, none⟩, .int .i64 b2), (⟨w.heap.size + 1, 0, none⟩, .int .i64 x), (⟨w.heap.size + 1, 1, none⟩, .int .i64 y)] from ⟨c2, e0, e1, f0, f1, trivial⟩) e2)
          have hvb := Lib.hid (show Blk (w4.alloc (.cells #[.int .i64 x, .int .i64 y] 24)).drew w4.heap.size 24 [.int .i64 x, .int .i64 y].toArray from Blk.new w4 24 _)
          have hnvb := Lib.hid (show (Value.slice (some ⟨bV, oV, none⟩) K.length cV).ownBlock ≠ some w4.heap.size from fun e => by have := (R4.out.1.lt _ e).2; omega)
          clear e0 e1 f0 f1 c1 c2 e2 S4 R4
          go_wp2_with fail
          refine region_free _ [0, 1, 2, 3, 4, 5, 6, 7] 3 (by kernel_rfl) (by kernel_rfl) (by kernel_rfl) (by kernel_rfl) (by kernel_rfl) (fun _ _ _ _ _ h => h) HC ?_
          intro hne hu
          simp only [AllCells] at hu
          simp only [pick, List.take_succ_cons, List.take_zero, List.drop_succ_cons, List.drop_zero, List.cons_append, List.nil_append]
          repeat (go_big_quiet_step (fail))
          refine wpQuiet_nil ?_
          clear hne hu
          refine anyN_oneL 8 (by kernel_rfl) ?_
          simp only [List.take_succ_cons, List.take_zero, List.drop_succ_cons, List.drop_zero]
          go_wp2_with fail
          refine And.intro (fun _ => HC5.out) ?_
          clear HC
          refine anyN_oneL 9 (by kernel_rfl) ?_
          simp only [List.take_succ_cons, List.take_zero, List.drop_succ_cons, List.drop_zero]
          go_wp2_with fail
          generalize (w4.alloc (.cells #[.int .i64 x, .int .i64 y] 24)).drew = W5 at *
          generalize w4.heap.size = V at *
          refine (insI_c _ K.length k V (idCells K) [.int .i64 x, .int .i64 y] W5 R5.out.1 (by omega) (by omega) hnvb.out hvb.out rfl (by simp [Value.oneCell']) (idCells_one K)).mono ?_
          rintro e w6 ⟨gN, cN, rfl, hg6, hr6, hat6⟩
          rw [idCells_hang K k (x, y)] at hr6
          have nb : ∀ X, own X = 0 → (Value.slice (some ⟨bV, oV, none⟩) K.length cV).ownBlock ≠ some X := fun X h0 e => by
            have := R5.out.2 X e
            rw [h0] at this
            exact Ht.out this.symm
          have b6 := S5.out.ax.blk.past hg6 (R5.out.not_blk S5.out.ax.blk (by decide))
          have xb6 := S5.out.xb.blk.past hg6 (nb _ S5.out.xb.zero)
          have xz6 := S5.out.xz.blk.past hg6 (nb _ S5.out.xz.zero)
          have mH6 := S5.out.ax.mH.past hg6 (R5.out.not_map S5.out.ax.mH)
          have mS6 := S5.out.ax.mS.past hg6 (R5.out.not_map S5.out.ax.mS)
          have HC6 : Hid (AllCells w6 [(⟨p, 2, none⟩, .map (some hh)), (⟨w.heap.size, 0, none⟩, .int .i64 b1), (⟨w.heap.size, 1, none⟩, .int .i64 b2), (⟨w.heap.size + 1, 0, none⟩, .int .i64 x), (⟨w.heap.size + 1, 1, none⟩, .int .i64 y)]) := ⟨b6.cell 2, xb6.cell 0, xb6.cell 1, xz6.cell 0, xz6.cell 1, trivial⟩
          have G6 := Lib.hid hg6
          have RR6 := Lib.hid hr6
          have AT6 := Lib.hid hat6
          have B6 := Lib.hid (And.intro b6 (And.intro xb6 (And.intro xz6 (And.intro mH6 mS6))))
          clear hg6 hr6 hat6 b6 xb6 xz6 mH6 mS6 nb hvb hnvb HC5
          go_wp2_with fail
          refine And.intro (fun _ => HC6.out) ?_
          refine anyN_oneL 10 (by kernel_rfl) ?_
          simp only [List.take_succ_cons, List.take_zero, List.drop_succ_cons, List.drop_zero]
          refine wpList_mapUpdate_id w6 rfl _ _ _ 97 rfl 22 Try.underlying97 hh hl rfl B6.out.2.2.2.1 b1 b2 _ rfl rfl ?_
          intro w7 hm7 hg7
          have mne : ∀ {X e cs}, Blk w6 X e cs → (some hh : Option Nat) ≠ some X := fun hb e => hb.ne_map B6.out.2.2.2.1 (Option.some.inj e).symm
          have b7 := B6.out.1.past hg7 (mne B6.out.1)
          have xb7 := B6.out.2.1.past hg7 (mne B6.out.2.1)
          have xz7 := B6.out.2.2.1.past hg7 (mne B6.out.2.2.1)
          have mS7 := B6.out.2.2.2.2.past hg7 (fun e => S5.out.ax.sh (Option.some.inj e).symm)
          have HC7 : Hid (AllCells w7 [(⟨p, 2, none⟩, .map (some hh)), (⟨w.heap.size, 0, none⟩, .int .i64 b1), (⟨w.heap.size, 1, none⟩, .int .i64 b2), (⟨w.heap.size + 1, 0, none⟩, .int .i64 x), (⟨w.heap.size + 1, 1, none⟩, .int .i64 y)]) := ⟨b7.cell 2, xb7.cell 0, xb7.cell 1, xz7.cell 0, xz7.cell 1, trivial⟩
          have HD7 : AllCells w7.drew [(⟨p, 1, none⟩, .map (some s)), (⟨w.heap.size + 1, 0, none⟩, .int .i64 x), (⟨w.heap.size + 1, 1, none⟩, .int .i64 y)] := ⟨b7.cell 1, xz7.cell 0, xz7.cell 1, trivial⟩
          have M7 := Lib.hid hm7
          have G7 := Lib.hid hg7
          have MS7 := Lib.hid (mS7.kept (w' := w7.drew) rfl)
          have B7 := Lib.hid (And.intro b7 xz7)
          clear hm7 hg7 b7 xb7 xz7 mS7 mne B6
          simp only [Exit.then]
          refine And.intro (fun _ => HC7.out) ?_
          refine ⟨by kernel_rfl, ?_⟩
          clear HC7 HC6
          simp only [Act.put]
          go_wp2_with fail
          refine region_free _ [0, 1, 2, 3, 4] 1 (by kernel_rfl) (by kernel_rfl) (by kernel_rfl) (by kernel_rfl) (by kernel_rfl) (fun _ _ _ _ _ h => h) HD7 ?_
          intro hne hu
          simp only [AllCells] at hu
          simp only [pick, List.take_succ_cons, List.take_zero, List.drop_succ_cons, List.drop_zero, List.cons_append, List.nil_append]
          repeat (go_big_quiet_step (fail))
          refine wpQuiet_nil ?_
          clear hne hu
          refine anyN_oneL 5 (by kernel_rfl) ?_
          simp only [List.take_succ_cons, List.take_zero, List.drop_succ_cons, List.drop_zero]
          refine wpList_mapUpdate_id w7.drew rfl _ _ _ 95 rfl 4 Try.underlying95 s (thereOf first puts) rfl MS7.out x y (.bool true) rfl rfl ?_
          intro w8 hm8 hg8
          have mne : ∀ {X e cs}, Blk w7 X e cs → (some s : Option Nat) ≠ some X := fun hb e => hb.ne_map (MS7.out.kept (w' := w7) rfl) (Option.some.inj e).symm
          have b8 := (B7.out.1.kept (w' := w7.drew) rfl).past hg8 (mne B7.out.1)
          have xz8 := (B7.out.2.kept (w' := w7.drew) rfl).past hg8 (mne B7.out.2)
          obtain ⟨own8, tr8, is8⟩ := S5.out.ax.put3 (b1, b2) (x, y) (w1 := w6) (w2 := w7) (w3 := w7.drew) (w4 := w8) (g := gN) (c := cN) Hx.out (by rw [Hvh.out, HK.out]; exact G6.out) (by rw [HK.out]; unfold hangAdd; rw [Hsc.out]; exact RR6.out) (by rw [Hvh.out, HK.out]; exact AT6.out) (by rw [HK.out]; exact M7.out) G7.out ((Below.refl _ _).drew) hm8 hg8
          have FIN := Lib.hid (show SAP w own t p first (puts ++ [((b1, b2), (x, y))]) cuts (.int .i64 0) (.returned (.int .i64 0)) w8 from ⟨rfl, own8, ((Tr.refl own t w).below S5.out.below).trans tr8, Hwf.out, Hc.out.2, _, _, _, _, _, _, is8⟩)
          have HC8 : Hid (AllCells w8 [(⟨p, 1, none⟩, .map (some s)), (⟨w.heap.size + 1, 0, none⟩, .int .i64 x), (⟨w.heap.size + 1, 1, none⟩, .int .i64 y)]) := ⟨b8.cell 1, xz8.cell 0, xz8.cell 1, trivial⟩
          clear hm8 hg8 b8 xz8 mne tr8 is8 S5 HD7 M7 G7 MS7 B7 G6 RR6 AT6 R5
          simp only [Exit.then]
          refine And.intro (fun _ => HC8.out) ?_
          refine ⟨by kernel_rfl, ?_⟩
          simp only [Act.put]
          go_wp2_with fail
          go_ret
          exact FIN.out
        · have hno2 : Hid (∀ j, j < k + 1 → ∃ z, K[j]? = some z ∧ bef (x, y) z = true) := fun j hj => by
            by_cases hjk : j < k
            · exact hno.out j hjk
            · have : j = k := by omega
              subst this
              exact ⟨_, hz.out, hbf⟩
          clear hbf
          go_wp2_with fail
          refine And.intro (fun _ => C4.out) ?_
          refine anyN_more [11] 0 (by kernel_rfl) (by kernel_rfl) (by kernel_rfl) (by kernel_rfl) (fun _ _ _ _ _ h => h) C4.out ?_
          intro hne hu
          simp only [AllCells] at hu
          simp only [pick, List.take_succ_cons, List.take_zero, List.drop_succ_cons, List.drop_zero, List.cons_append, List.nil_append]
          repeat (go_big_quiet_step (fail))
          refine wpQuiet_nil ?_
          clear hne hu
          refine ⟨by kernel_rfl, ?_⟩
          clear C4
          go_wp2_with fail
          go_roundw
          case rel => exact ⟨k + 1, by omega, by go_num, hno2, S4.out⟩
          case measure => simp [intOf]; omega
      · have hkk : k = K.length := by omega
        subst hkk
        have Hsc := Lib.hid (scan_spec (x, y) K K.length hno.out (.inl rfl))
        have HC : AllCells wr.drew [(⟨w.heap.size + 1, 0, none⟩, .int .i64 x), (⟨w.heap.size + 1, 1, none⟩, .int .i64 y)] := ⟨f0, f1, trivial⟩
        have S1 := Lib.hid (S0.out.next (w' := wr.drew) ((Below.refl _ _).drew))
        clear hrow S0 e0 e1 c1 c2 f0 f1
        go_wp2_with fail
        refine region_free _ [0, 1, 2, 3, 4, 5, 6, 7, 8, 9] 2 (by kernel_rfl) (by kernel_rfl) (by kernel_rfl) (by kernel_rfl) (by kernel_rfl) (fun _ _ _ _ _ h => h) HC ?_
        intro hne hu
        simp only [AllCells] at hu
        simp only [pick, List.take_succ_cons, List.take_zero, List.drop_succ_cons, List.drop_zero, List.cons_append, List.nil_append]
        repeat (go_big_quiet_step (fail))
        refine wpQuiet_nil ?_
        clear hne hu
        refine anyN_oneL 10 (by kernel_rfl) ?_
        simp only [List.take_succ_cons, List.take_zero, List.drop_succ_cons, List.drop_zero]
        go_wp2_with fail
        refine And.intro (fun _ => HC) ?_
        refine anyN_more [11] 0 (by kernel_rfl) (by kernel_rfl) (by kernel_rfl) (by kernel_rfl) (fun _ _ _ _ _ h => h) HC ?_
        intro hne hu
        simp only [AllCells] at hu
        simp only [pick, List.take_succ_cons, List.take_zero, List.drop_succ_cons, List.drop_zero, List.cons_append, List.nil_append]
        repeat (go_big_quiet_step (fail))
        refine wpQuiet_nil ?_
        clear hne hu
        refine ⟨by kernel_rfl, ?_⟩
        clear HC
        have S4 := S1
        clear S1
        have hrow := S4.out.ax.hang (b1, b2)
        rw [Hvh.out, HK.out] at hrow
        have R4 := Lib.hid hrow
        clear hrow R0
        obtain ⟨w4, hw4⟩ : ∃ u, u = wr.drew := ⟨_, rfl⟩
        rw [← hw4] at S4 R4 ⊢
        clear hw4
        have e2 : Below w4.heap.size w4 (w4.alloc (.cells #[.int .i64 x, .int .i64 y] 24)).drew := ((Below.refl _ _).alloc (Nat.le_refl _) _).drew
        obtain ⟨e0, e1, f0, f1, c1, c2⟩ := S4.out.cells
        have HC : AllCells w4.drew [(⟨p, 2, none⟩, .map (some hh)), (⟨w.heap.size, 0, none⟩, .int .i64 b1), (⟨w.heap.size, 1, none⟩, .int .i64 b2), (⟨w.heap.size + 1, 0, none⟩, .int .i64 x), (⟨w.heap.size + 1, 1, none⟩, .int .i64 y)] := ⟨c2, e0, e1, f0, f1, trivial⟩
        have S5 := Lib.hid (S4.out.next e2)
        have R5 := Lib.hid (R4.out.keep (Same.below e2))
        have HC5 := Lib.hid (AllCells.below (show AllCells w4 [(⟨p, 2, none⟩, .map (some hh)), (⟨w.heap.size, 0, none⟩, .int .i64 b1), (⟨w.heap.size, 1, none⟩, .int .i64 b2), (⟨w.heap.size + 1, 0, none⟩, .int .i64 x), (⟨w.heap.size + 1, 1, none⟩, .int .i64 y)] from ⟨c2, e0, e1, f0, f1, trivial⟩) e2)
        have hvb := Lib.hid (show Blk (w4.alloc (.cells #[.int .i64 x, .int .i64 y] 24)).drew w4.heap.size 24 [.int .i64 x, .int .i64 y].toArray from Blk.new w4 24 _)
        have hnvb := Lib.hid (show (Value.slice AV K.length cV).ownBlock ≠ some w4.heap.size from fun e => by have := (R4.out.1.lt _ e).2; omega)
        clear e0 e1 f0 f1 c1 c2 e2 S4 R4
        go_wp2_with fail
        refine region_free _ [0, 1, 2, 3, 4, 5, 6, 7] 3 (by kernel_rfl) (by kernel_rfl) (by kernel_rfl) (by kernel_rfl) (by kernel_rfl) (fun _ _ _ _ _ h => h) HC ?_
        intro hne hu
        simp only [AllCells] at hu
        simp only [pick, List.take_succ_cons, List.take_zero, List.drop_succ_cons, List.drop_zero, List.cons_append, List.nil_append]
        repeat (go_big_quiet_step (fail))
        refine wpQuiet_nil ?_
        clear hne hu
        refine anyN_oneL 8 (by kernel_rfl) ?_
        simp only [List.take_succ_cons, List.take_zero, List.drop_succ_cons, List.drop_zero]
        go_wp2_with fail
        refine And.intro (fun _ => HC5.out) ?_
        clear HC
        refine anyN_oneL 9 (by kernel_rfl) ?_
        simp only [List.take_succ_cons, List.take_zero, List.drop_succ_cons, List.drop_zero]
        go_wp2_with fail
        generalize (w4.alloc (.cells #[.int .i64 x, .int .i64 y] 24)).drew = W5 at *
        generalize w4.heap.size = V at *
        refine (insI_c _ K.length K.length V (idCells K) [.int .i64 x, .int .i64 y] W5 R5.out.1 (by omega) (by omega) hnvb.out hvb.out rfl (by simp [Value.oneCell']) (idCells_one K)).mono ?_
        rintro e w6 ⟨gN, cN, rfl, hg6, hr6, hat6⟩
        rw [idCells_hang K K.length (x, y)] at hr6
        have nb : ∀ X, own X = 0 → (Value.slice AV K.length cV).ownBlock ≠ some X := fun X h0 e => by
          have := R5.out.2 X e
          rw [h0] at this
          exact Ht.out this.symm
        have b6 := S5.out.ax.blk.past hg6 (R5.out.not_blk S5.out.ax.blk (by decide))
        have xb6 := S5.out.xb.blk.past hg6 (nb _ S5.out.xb.zero)
        have xz6 := S5.out.xz.blk.past hg6 (nb _ S5.out.xz.zero)
        have mH6 := S5.out.ax.mH.past hg6 (R5.out.not_map S5.out.ax.mH)
        have mS6 := S5.out.ax.mS.past hg6 (R5.out.not_map S5.out.ax.mS)
        have HC6 : Hid (AllCells w6 [(⟨p, 2, none⟩, .map (some hh)), (⟨w.heap.size, 0, none⟩, .int .i64 b1), (⟨w.heap.size, 1, none⟩, .int .i64 b2), (⟨w.heap.size + 1, 0, none⟩, .int .i64 x), (⟨w.heap.size + 1, 1, none⟩, .int .i64 y)]) := ⟨b6.cell 2, xb6.cell 0, xb6.cell 1, xz6.cell 0, xz6.cell 1, trivial⟩
        have G6 := Lib.hid hg6
        have RR6 := Lib.hid hr6
        have AT6 := Lib.hid hat6
        have B6 := Lib.hid (And.intro b6 (And.intro xb6 (And.intro xz6 (And.intro mH6 mS6))))
        clear hg6 hr6 hat6 b6 xb6 xz6 mH6 mS6 nb hvb hnvb HC5
        go_wp2_with fail
        refine And.intro (fun _ => HC6.out) ?_
        refine anyN_oneL 10 (by kernel_rfl) ?_
        simp only [List.take_succ_cons, List.take_zero, List.drop_succ_cons, List.drop_zero]
        refine wpList_mapUpdate_id w6 rfl _ _ _ 97 rfl 22 Try.underlying97 hh hl rfl B6.out.2.2.2.1 b1 b2 _ rfl rfl ?_
        intro w7 hm7 hg7
        have mne : ∀ {X e cs}, Blk w6 X e cs → (some hh : Option Nat) ≠ some X := fun hb e => hb.ne_map B6.out.2.2.2.1 (Option.some.inj e).symm
        have b7 := B6.out.1.past hg7 (mne B6.out.1)
        have xb7 := B6.out.2.1.past hg7 (mne B6.out.2.1)
        have xz7 := B6.out.2.2.1.past hg7 (mne B6.out.2.2.1)
        have mS7 := B6.out.2.2.2.2.past hg7 (fun e => S5.out.ax.sh (Option.some.inj e).symm)
        have HC7 : Hid (AllCells w7 [(⟨p, 2, none⟩, .map (some hh)), (⟨w.heap.size, 0, none⟩, .int .i64 b1), (⟨w.heap.size, 1, none⟩, .int .i64 b2), (⟨w.heap.size + 1, 0, none⟩, .int .i64 x), (⟨w.heap.size + 1, 1, none⟩, .int .i64 y)]) := ⟨b7.cell 2, xb7.cell 0, xb7.cell 1, xz7.cell 0, xz7.cell 1, trivial⟩
        have HD7 : AllCells w7.drew [(⟨p, 1, none⟩, .map (some s)), (⟨w.heap.size + 1, 0, none⟩, .int .i64 x), (⟨w.heap.size + 1, 1, none⟩, .int .i64 y)] := ⟨b7.cell 1, xz7.cell 0, xz7.cell 1, trivial⟩
        have M7 := Lib.hid hm7
        have G7 := Lib.hid hg7
        have MS7 := Lib.hid (mS7.kept (w' := w7.drew) rfl)
        have B7 := Lib.hid (And.intro b7 xz7)
        clear hm7 hg7 b7 xb7 xz7 mS7 mne B6
        simp only [Exit.then]
        refine And.intro (fun _ => HC7.out) ?_
        refine ⟨by kernel_rfl, ?_⟩
        clear HC7 HC6
        simp only [Act.put]
        go_wp2_with fail
        refine region_free _ [0, 1, 2, 3, 4] 1 (by kernel_rfl) (by kernel_rfl) (by kernel_rfl) (by kernel_rfl) (by kernel_rfl) (fun _ _ _ _ _ h => h) HD7 ?_
        intro hne hu
        simp only [AllCells] at hu
        simp only [pick, List.take_succ_cons, List.take_zero, List.drop_succ_cons, List.drop_zero, List.cons_append, List.nil_append]
        repeat (go_big_quiet_step (fail))
        refine wpQuiet_nil ?_
        clear hne hu
        refine anyN_oneL 5 (by kernel_rfl) ?_
        simp only [List.take_succ_cons, List.take_zero, List.drop_succ_cons, List.drop_zero]
        refine wpList_mapUpdate_id w7.drew rfl _ _ _ 95 rfl 4 Try.underlying95 s (thereOf first puts) rfl MS7.out x y (.bool true) rfl rfl ?_
        intro w8 hm8 hg8
        have mne : ∀ {X e cs}, Blk w7 X e cs → (some s : Option Nat) ≠ some X := fun hb e => hb.ne_map (MS7.out.kept (w' := w7) rfl) (Option.some.inj e).symm
        have b8 := (B7.out.1.kept (w' := w7.drew) rfl).past hg8 (mne B7.out.1)
        have xz8 := (B7.out.2.kept (w' := w7.drew) rfl).past hg8 (mne B7.out.2)
        obtain ⟨own8, tr8, is8⟩ := S5.out.ax.put3 (b1, b2) (x, y) (w1 := w6) (w2 := w7) (w3 := w7.drew) (w4 := w8) (g := gN) (c := cN) Hx.out (by rw [Hvh.out, HK.out]; exact G6.out) (by rw [HK.out]; unfold hangAdd; rw [Hsc.out]; exact RR6.out) (by rw [Hvh.out, HK.out]; exact AT6.out) (by rw [HK.out]; exact M7.out) G7.out ((Below.refl _ _).drew) hm8 hg8
        have FIN := Lib.hid (show SAP w own t p first (puts ++ [((b1, b2), (x, y))]) cuts (.int .i64 0) (.returned (.int .i64 0)) w8 from ⟨rfl, own8, ((Tr.refl own t w).below S5.out.below).trans tr8, Hwf.out, Hc.out.2, _, _, _, _, _, _, is8⟩)
        have HC8 : Hid (AllCells w8 [(⟨p, 1, none⟩, .map (some s)), (⟨w.heap.size + 1, 0, none⟩, .int .i64 x), (⟨w.heap.size + 1, 1, none⟩, .int .i64 y)]) := ⟨b8.cell 1, xz8.cell 0, xz8.cell 1, trivial⟩
        clear hm8 hg8 b8 xz8 mne tr8 is8 S5 HD7 M7 G7 MS7 B7 G6 RR6 AT6 R5
        simp only [Exit.then]
        refine And.intro (fun _ => HC8.out) ?_
        refine ⟨by kernel_rfl, ?_⟩
        simp only [Act.put]
        go_wp2_with fail
        go_ret
        exact FIN.out

theorem sinsert_c (w : World) (own : Tags) (t p : Nat) (first : List Id) (puts cuts : List (Id × Id)) (b1 b2 x y : Int) (h : ShAt w own t p first puts cuts) (hf : Fresh own w) (ht : t ≠ 0) :
    Calls Try.prog 30 #[.pointer (some ⟨p, 0, none⟩), .agg #[.int .i64 b1, .int .i64 b2], .agg #[.int .i64 x, .int .i64 y]] w (SAP w own t p first (insPuts first puts (b1, b2) (x, y)) cuts (.int .i64 (insS first puts (b1, b2) (x, y)))) := by
  have hwf := h.wf.put (b1, b2) (x, y)
  unfold insPuts at hwf ⊢
  by_cases hz : (x, y) = (0, 0)
  · have e : insS first puts (b1, b2) (x, y) = 1 := by unfold insS; rw [if_pos hz]
    rw [e, if_neg (by decide)]
    cases hz
    exact sins_zero w own t p first puts cuts b1 b2 h
  · cases hx : has first puts (x, y) with
    | true =>
      have e : insS first puts (b1, b2) (x, y) = 4 := by unfold insS; rw [if_neg hz, if_pos hx]
      rw [e, if_neg (by decide)]
      exact sins_dup w own t p first puts cuts b1 b2 x y h hz hx
    | false =>
      by_cases hb : (b1, b2) ≠ (0, 0) ∧ has first puts (b1, b2) = false
      · have e : insS first puts (b1, b2) (x, y) = 3 := by unfold insS; rw [if_neg hz, if_neg (by rw [hx]; decide), if_pos hb]
        rw [e, if_neg (by decide)]
        exact sins_out w own t p first puts cuts b1 b2 x y h hz hx hb.1 hb.2
      · have hb' : (b1, b2) = (0, 0) ∨ ((b1, b2) ≠ (0, 0) ∧ has first puts (b1, b2) = true) := by
          by_cases h0 : (b1, b2) = (0, 0)
          · exact .inl h0
          · right
            refine ⟨h0, ?_⟩
            cases hh : has first puts (b1, b2) with
            | true => rfl
            | false => exact absurd ⟨h0, hh⟩ hb
        by_cases hl : 1000 ≤ first.length + puts.length
        · have e : insS first puts (b1, b2) (x, y) = 5 := by unfold insS; rw [if_neg hz, if_neg (by rw [hx]; decide), if_neg hb, if_pos hl]
          rw [e, if_neg (by decide)]
          exact sins_full w own t p first puts cuts b1 b2 x y h hz hx hb' hl
        · have e : insS first puts (b1, b2) (x, y) = 0 := by unfold insS; rw [if_neg hz, if_neg (by rw [hx]; decide), if_neg hb, if_neg hl]
          rw [e, if_pos rfl] at hwf ⊢
          exact sins_put w own t p first puts cuts b1 b2 x y h hf ht hz hx hb' (by omega) hwf
end Go.Proofs.Ytgmlhpkhecbkoaa
