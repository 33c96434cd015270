/-
  (*Axis).All's closure: its contract. Condition: the axis lies in memory as AxisAt says.
-/
import Derived.Test.YtgmlhpkhecbkoaaQ2
import Derived.Stop.RegionWithIn
namespace Go.Proofs.Ytgmlhpkhecbkoaa
open Go.RowKit Go.Shelf

attribute [local go_sem] Oper.semAt_some

def pairv (x : Id × Bool) : Array Value := #[.agg #[.int .i64 x.1.1, .int .i64 x.1.2], .bool x.2]

/-- Rows that a call has made since W, tagged 1 where nothing was tagged. -/
theorem its_of {Fo : World → Nat → Prop} {W W1 W2 : World} {own1 own2 : Tags} {A B : Option Addr} {n c m d : Nat} {ids : List Id} {live : List Bool} (hnew : ∀ k, W.heap.size ≤ k → Fo W2 k)
    (t1 : Tr (fun _ => 0) 1 W own1 W1) (r1 : Row W1 own1 1 24 2 (.slice A n c) n (idCells ids)) (t2 : Tr own1 2 W1 own2 W2) (r2 : Row W2 own2 2 4 1 (.slice B m d) m (boolCells live)) : Its Fo W2 A B ids live := by
  have hs : ∀ k, k < W.heap.size → own2 k = 0 := fun k hk => (t2.same k (Nat.lt_of_lt_of_le hk t1.size)).trans (t1.same k hk)
  have r1' := r1.keep (t2.toSame (by decide))
  refine ⟨fun hl => ?_, fun hl => ?_⟩
  · obtain ⟨b, off, hA, ht, hb, hc⟩ := r1'.toIdsR.2 hl
    have hv : (Value.slice A n c).ownBlock = some b := by subst hA; rcases r1'.1.2 with ⟨hv, _⟩ | ⟨g, cap, cur, hv, _⟩ <;> (cases hv; try rfl)
    obtain ⟨cs, hblk⟩ := r1'.blk hv
    refine ⟨b, off, hA, hnew b ?_, ⟨cs, 24, (0, 0), hblk⟩, hc⟩
    rcases Nat.lt_or_ge b W.heap.size with h | h
    · have := hs b h; rw [ht] at this; cases this
    · exact h
  · have hl' : boolCells live ≠ [] := fun e => hl (by simpa [boolCells] using e)
    obtain ⟨b, off, hA, ht, hb, hc⟩ := r2.toOnesR.2 hl'
    have hv : (Value.slice B m d).ownBlock = some b := by subst hA; rcases r2.1.2 with ⟨hv, _⟩ | ⟨g, cap, cur, hv, _⟩ <;> (cases hv; try rfl)
    obtain ⟨cs, hblk⟩ := r2.blk hv
    refine ⟨b, off, hA, hnew b ?_, ⟨cs, 4, (0, 0), hblk⟩, fun i hi => ?_⟩
    · rcases Nat.lt_or_ge b W.heap.size with h | h
      · have := hs b h; rw [ht] at this; cases this
      · exact h
    · have := hc i (by simpa [boolCells] using hi)
      simpa [boolCells] using this

theorem below_two {W W1 W2 : World} {own1 own2 : Tags} (t1 : Tr (fun _ => 0) 1 W own1 W1) (t2 : Tr own1 2 W1 own2 W2) : Below W.heap.size W W2 :=
  ⟨t2.os.trans t1.os, t2.tape.trans t1.tape, t2.output.trans t1.output, Nat.le_trans t1.size t2.size, fun k hk => (t2.block k (Nat.lt_of_lt_of_le hk t1.size) (by rw [t1.same k hk]; decide)).trans (t1.block k hk (by decide))⟩
theorem zip_at {ids : List Id} {live : List Bool} {k : Nat} {z : Id} {b : Bool} (h1 : ids[k]? = some z) (h2 : live[k]? = some b) : (ids.zip live).take (k + 1) = (ids.zip live).take k ++ [(z, b)] := by
  have h : (ids.zip live)[k]? = some (z, b) := by rw [List.getElem?_zip_eq_some]; exact ⟨h1, h2⟩
  obtain ⟨h3, h4⟩ := List.getElem?_eq_some_iff.1 h
  rw [List.take_succ_eq_append_getElem h3, h4]
theorem IdsR.plain {w : World} {own : Tags} {t : Nat} {A : Option Addr} {l : List Id} (h : IdsR w own t A l) : IdsR w (fun _ => 0) 0 A l := fun hl => by
  obtain ⟨b, off, hA, _, hb, hc⟩ := h hl
  exact ⟨b, off, hA, rfl, hb, hc⟩

set_option maxRecDepth 100000 in
set_option maxHeartbeats 4000000 in
theorem all70_in (n : Nat) (hn : 1 ≤ n) (l Bn p t : Nat) (own : Tags) (ids : List Id) (live : List Bool) (Fo : World → Nat → Prop) (hFo : FoOK Fo) (J Jx : List (Id × Bool) → World → Prop) (W : World)
    (hJ : AbidesFrom W.heap.size J) (hnew : ∀ W', Below W.heap.size W W' → ∀ k, W.heap.size ≤ k → Fo W' k)
    (hY : ∀ pre x W1, J pre W1 → pre.length < ids.length → YieldAt Fence.wide (n - 1) Try.prog l (pairv x) W1 fun e W' =>
      (e = .returned (.bool true) ∧ J (pre ++ [x]) W' ∧ KF Fo W1 W') ∨ (e = .returned (.bool false) ∧ Jx (pre ++ [x]) W'))
    (hBn : W.cell? ⟨Bn, 0, none⟩ = some (.pointer (some ⟨p, 0, none⟩))) (h : AxisAt W own t p ids live) (h0 : J [] W) :
    CallsIn Fence.wide n Try.prog 70 #[.func (.yield l) #[] #[], .pointer (some ⟨Bn, 0, none⟩)] W fun e W' => (∃ v, e = .returned v) ∧
      ((∃ ys, ys = ids.zip live ∧ J ys W') ∨ (∃ pre, pre <+: ids.zip live ∧ Jx pre W')) := by
  obtain ⟨vI, vL, vS, vA, vV, a⟩ := h.exI
  have hle := h.le
  have hlen := Lib.hid h.len
  obtain ⟨AI, cI, rfl, _⟩ := a.rI.form
  obtain ⟨AL, cL, rfl, _⟩ := a.rL.form
  have c0 := a.blk.cell 0
  have c1 := a.blk.cell 1
  simp only [List.getElem?_toArray, List.getElem?_cons_zero, List.getElem?_cons_succ] at c0 c1
  have HI := Lib.hid a.rI
  have HL := Lib.hid a.rL
  have HJ := Lib.hid hJ
  have HN := Lib.hid hnew
  have HY := Lib.hid hY
  have H0 := Lib.hid h0
  have HF := Lib.hid hFo
  clear hJ hnew hY h0 h a hFo
  refine callsIn_of_wp Try.func70 rfl trivial ?_ rfl
  simp only [Try.ntmps70, List.size_toArray, List.length_cons, List.length_nil, Nat.reduceAdd, Nat.reduceSub, Array.replicate_succ, Array.replicate_zero, List.push_toArray, List.append_toArray, List.nil_append, List.cons_append]
  gi_wp2
  refine wpIn_wide.2 ?_
  have C0 := Lib.hid (Kept.cons (own := fun _ => 0) (T := [0]) hBn (List.mem_singleton.2 rfl) (Kept.cons c0 (List.mem_singleton.2 rfl) (Kept.cons c1 (List.mem_singleton.2 rfl) Kept.nil)))
  refine region_free _ [0, 1, 2, 3, 5, 6, 7, 8] 4 (by kernel_rfl) (by kernel_rfl) (by kernel_rfl) (by kernel_rfl) (by kernel_rfl) (fun _ _ _ _ _ h => h) C0.out.drew.1 ?_
  intro hne hu
  simp only [AllCells] at hu
  simp only [pick, List.take_succ_cons, List.take_zero, List.drop_succ_cons, List.drop_zero, List.cons_append, List.nil_append]
  repeat (go_big_quiet_step (fail))
  refine wpQuiet_nil ?_
  clear hne hu
  refine anyN_oneL 4 (by kernel_rfl) ?_
  simp only [List.take_succ_cons, List.take_zero, List.drop_succ_cons, List.drop_zero]
  go_wp2_with fail
  have r0 := HI.out.keep (Same.drew (own := own) (s := t))
  have q0 := HL.out.keep (Same.drew (own := own) (s := t))
  refine (clone_c AI ids.length cI ids W.drew (fun _ => 0) 0 1 r0.toIdsR.2.plain rfl (by omega)).mono ?_
  rintro e w1 ⟨v, own1, rfl, tr1, row1⟩
  obtain ⟨BI, dI, hv, _⟩ := row1.form
  subst hv
  have C1 := Lib.hid (C0.out.drew.tr tr1 (by decide))
  have hb1 := tr1.toBelow (fun k _ => by decide)
  have q1 := Lib.hid (q0.keep (Same.below hb1))
  have T1 := Lib.hid tr1
  have R1 := Lib.hid row1
  clear tr1 row1 hb1 C0 q0 r0
  go_wp2_with fail
  refine And.intro (fun _ => C1.out.1) ?_
  refine anyN_oneL 9 (by kernel_rfl) ?_
  simp only [List.take_succ_cons, List.take_zero, List.drop_succ_cons, List.drop_zero]
  go_wp2_with fail
  refine (bclone_c (.slice AL live.length cL) live.length live w1 own1 own t 2 q1.out (by rw [hlen.out]; omega)).mono ?_
  rintro e w2 ⟨v, own2, rfl, tr2, row2⟩
  obtain ⟨BL, dL, hv, _⟩ := row2.form
  subst hv
  rw [hlen.out] at row2 ⊢
  have C2 := Lib.hid (C1.out.tr tr2 (by decide))
  have T2 := Lib.hid tr2
  have R2 := Lib.hid row2
  clear tr2 row2 C1
  go_wp2_with fail
  refine And.intro (fun _ => C2.out.1) ?_
  refine anyN_more [10, 11] 0 (by kernel_rfl) (by kernel_rfl) (by kernel_rfl) (by kernel_rfl) (fun _ _ _ _ _ h => h) C2.out.1 ?_
  intro hne hu
  simp only [AllCells] at hu
  simp only [pick, List.take_succ_cons, List.take_zero, List.drop_succ_cons, List.drop_zero, List.cons_append, List.nil_append]
  repeat (go_big_quiet_step (fail))
  refine wpQuiet_nil ?_
  clear hne hu
  refine ⟨by kernel_rfl, ?_⟩
  have hB2 : Below W.heap.size W w2 := ((Below.refl _ W).drew).trans (below_two T1.out T2.out)
  have I2 : Hid (Its Fo w2 BI BL ids live) := its_of (W := W.drew) (fun k hk => HN.out w2 hB2 k hk) T1.out R1.out T2.out (by have := R2.out; exact this)
  have J2 := Lib.hid (HJ.out [] W w2 none H0.out (grownBy_of_below hB2) (fun r e => by cases e))
  clear hB2 T1 T2 R1 R2 C2 hBn c0 c1 H0 HI HL q1 HN
  gi_wp2
  gi_loopw [21] (fun i wr => ∃ k : Nat, k ≤ ids.length ∧ i = .int .i64 k ∧ Hid (J ((ids.zip live).take k) wr) ∧ Hid (Its Fo wr BI BL ids live)) (fun i _ => ids.length - (intOf i).toNat)
  case atStart => exact ⟨0, Nat.zero_le _, rfl, J2.out, I2.out⟩
  case round =>
    obtain ⟨k, hk, rfl, hJk, hIk⟩ := hrel
    clear J2 I2
    by_cases hlt : k < ids.length
    · have hlt2 : k < live.length := by rw [hlen.out]; exact hlt
      obtain ⟨b1, o1, rfl, _, _, hc1⟩ := hIk.out.ids (fun e => by rw [e] at hlt; simp at hlt)
      obtain ⟨b2, o2, rfl, _, _, hc2⟩ := hIk.out.live (fun e => by rw [e] at hlt2; simp at hlt2)
      obtain ⟨g1, g2⟩ := hc1 k hlt
      have g3 := hc2 k hlt2
      have hz := Lib.hid (zip_at (List.getElem?_eq_getElem hlt) (List.getElem?_eq_getElem hlt2))
      clear hc1 hc2
      generalize ids[k] = z at *
      generalize live[k] = b at *
      obtain ⟨z1, z2⟩ := z
      dsimp only at g1 g2
      have hk0 : (0 : Int) ≤ (k : Int) := by omega
      have hkn : (k : Int) < (ids.length : Int) := by omega
      gi_wp2
      have hJ5 := HJ.out _ _ (wr.alloc (Obj.cells #[Value.int IntKind.i64 z1, Value.int IntKind.i64 z2] 24)).drew none hJk.out (grownBy_of_below (((Below.refl _ _).alloc (Nat.le_refl _) _).drew)) (fun r e => by cases e)
      obtain ⟨fn, tmps, assign, body, hy, hR⟩ := HY.out _ ((z1, z2), b) _ hJ5 (by rw [List.length_take]; omega)
      have hR' := hR.mono (R' := fun e W' => ∃ bb, e = .returned (.bool bb) ∧ Hid (if bb then J ((ids.zip live).take k ++ [((z1, z2), b)]) W' ∧ KF Fo (wr.alloc (Obj.cells #[Value.int IntKind.i64 z1, Value.int IntKind.i64 z2] 24)).drew W' else Jx ((ids.zip live).take k ++ [((z1, z2), b)]) W')) (by
        rintro e W' (⟨rfl, h1, h2⟩ | ⟨rfl, h1⟩)
        · exact ⟨true, rfl, h1, h2⟩
        · exact ⟨false, rfl, h1⟩)
      have HR := Lib.hid hR'
      clear hR'
      unfold pairv at hy
      dsimp only at hy
      clear hR hJ5
      have hb2l := World.block_lt_of_cell? wr _ g3
      gi_region_with (refine HR.out.mono ?_; rintro e W3 ⟨bb, rfl, hbb⟩)
      all_goals
        simp only [Act.put, List.setIfInBounds_toArray, List.set_cons_succ, List.set_cons_zero]
        cases bb
        · have hx := hbb.out
          simp only [Bool.false_eq_true, if_false] at hx
          gi_wp2
          refine bodyPost_ret (results_none rfl _ _ _) rfl ?_
          exact ⟨⟨_, rfl⟩, .inr ⟨_, by rw [← hz.out]; exact List.take_prefix _ _, hx⟩⟩
        · have hx := hbb.out
          simp only [if_true] at hx
          obtain ⟨hj3, hk3⟩ := hx
          have HJ3 := Lib.hid hj3
          have HK3 := Lib.hid hk3
          clear hj3 hk3 hbb
          gi_wp2
          go_roundw
          case rel => exact ⟨k + 1, by omega, by go_num, by show J _ _; rw [hz.out]; exact HJ3.out, (hIk.out.keep (KF.below HF.out (((Below.refl _ _).alloc (Nat.le_refl _) _).drew))).keep HK3.out⟩
          case measure => simp [intOf]; omega
    · have hkk : k = ids.length := by omega
      subst hkk
      have hkn : ¬ ((ids.length : Int) < (ids.length : Int)) := by omega
      gi_wp2
      go_end0
      have e : (ids.zip live).take ids.length = ids.zip live := List.take_of_length_le (by rw [List.length_zip, hlen.out]; omega)
      have hj := hJk.out
      rw [e] at hj
      first | exact ⟨⟨_, rfl⟩, .inl hj⟩ | exact ⟨⟨_, rfl⟩, .inl ⟨_, rfl, hj⟩⟩

/-- a.All() hands back a value that goes through all pairs, or some of the first ones, for every loop body that leaves foreign blocks alone. -/
theorem all70_stops (n : Nat) (hn : 1 ≤ n) (Bn p t : Nat) (own : Tags) (ids : List Id) (live : List Bool) (Fo : World → Nat → Prop) (hFo : FoOK Fo) (w : World)
    (hnew : ∀ W', Below w.heap.size w W' → ∀ k, w.heap.size ≤ k → Fo W' k) (hBn : w.cell? ⟨Bn, 0, none⟩ = some (.pointer (some ⟨p, 0, none⟩))) (h : AxisAt w own t p ids live) :
    SeqStopsK Fence.wide n Try.prog 70 #[.pointer (some ⟨Bn, 0, none⟩)] pairv (KF Fo) (fun ys => ys = ids.zip live) (fun pre => pre <+: ids.zip live) ids.length w := fun l J Jx W hW hJ _ hY h0 =>
  all70_in n hn l Bn p t own ids live Fo hFo J Jx W hJ (fun W' hW' k hk => hnew W' (hW.trans (hW'.mono hW.size)) k (Nat.le_trans hW.size hk)) hY ((hW.cell (p := ⟨Bn, 0, none⟩) (World.block_lt_of_cell? w _ hBn)).trans hBn) (h.keep (Same.below hW)) h0

set_option maxRecDepth 100000 in
set_option maxHeartbeats 1000000 in
/-- A nil axis has nothing. -/
theorem all70_nil (n : Nat) (Bn : Nat) (Kp : World → World → Prop) (w : World) (hBn : w.cell? ⟨Bn, 0, none⟩ = some (.pointer none)) :
    SeqStopsK Fence.wide n Try.prog 70 #[.pointer (some ⟨Bn, 0, none⟩)] pairv Kp (fun ys => ys = []) (fun pre => pre <+: []) 0 w := fun l J Jx W hW _ _ _ h0 => by
  have hc := (hW.cell (p := ⟨Bn, 0, none⟩) (World.block_lt_of_cell? w _ hBn)).trans hBn
  have H0 := Lib.hid h0
  clear h0 hBn hW
  refine callsIn_of_wp Try.func70 rfl trivial ?_ rfl
  simp only [Try.ntmps70, List.size_toArray, List.length_cons, List.length_nil, Nat.reduceAdd, Nat.reduceSub, Array.replicate_succ, Array.replicate_zero, List.push_toArray, List.append_toArray, List.nil_append, List.cons_append]
  gi_wp2
  refine bodyPost_ret (results_none rfl _ _ _) rfl ?_
  first | exact ⟨⟨_, rfl⟩, .inl H0.out⟩ | exact ⟨⟨_, rfl⟩, .inl ⟨_, rfl, H0.out⟩⟩
end Go.Proofs.Ytgmlhpkhecbkoaa
