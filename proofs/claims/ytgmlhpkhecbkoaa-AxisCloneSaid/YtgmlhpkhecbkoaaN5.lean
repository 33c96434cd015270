/-
  (*counterpaneref03.Axis).Between, Place: their contracts. Condition: the axis lies in memory as RefAt says.
-/
import Derived.Test.YtgmlhpkhecbkoaaN4
namespace Go.Proofs.Ytgmlhpkhecbkoaa
open Go.RowKit

theorem OR.grow2 {w wr w' : World} {own own1 : Tags} {u : Nat} {l l' : List Id} {v v' : Value} (h : OR w own u l own1 v wr) (hg : wr.grownBy w' v.ownBlock) (hr : w'.ownsRow 0 24 2 v' l'.length (idCells l')) (hat : v'.ownBlock = v.ownBlock ∨ v'.ownBlock = some wr.heap.size) : ∃ own', OR w own u l' own' v' w' ∧ Tr own1 u wr own' w' := by
  obtain ⟨own2, tr2, _, r2⟩ := h.row.app (Tr.refl own1 u wr) hg hr (hat.imp id (fun e => ⟨e, (hr.lt _ e).2⟩))
  exact ⟨own2, ⟨h.tr.trans tr2, r2⟩, tr2⟩


set_option maxRecDepth 100000 in
set_option maxHeartbeats 4000000 in
theorem rbet_up (w : World) (own : Tags) (t u p : Nat) (ids : List Id) (live : List Bool) (x1 x2 y1 y2 : Int) (i j : Nat) (hi : idxI (x1, x2) ids = i) (hj : idxI (y1, y2) ids = j) (hij : i ≤ j) (hjl : j < ids.length) (h : RefAt w own t p ids live) (htu : t ≠ u) (hf : Fresh own w) :
    Calls Try.prog 38 #[.pointer (some ⟨p, 0, none⟩), .agg #[.int .i64 x1, .int .i64 x2], .agg #[.int .i64 y1, .int .i64 y2]] w (ListP w own u (seg ids live i (j + 1))) := by
  have hle := h.le
  have Hi := Lib.hid hi
  have Hj := Lib.hid hj
  clear hi hj
  have Hlen := Lib.hid h.len
  have Htu := Lib.hid htu
  have H0 := Lib.hid ((h.next ((Below.refl _ _).alloc (Nat.le_refl _) (.cells #[.int .i64 x1, .int .i64 x2] 24))).next ((Below.refl _ _).alloc (Nat.le_refl _) (.cells #[.int .i64 y1, .int .i64 y2] 24)))
  have T0 := Lib.hid (((Tr.refl own u w).alloc (.cells #[.int .i64 x1, .int .i64 x2] 24)).alloc (.cells #[.int .i64 y1, .int .i64 y2] 24))
  have x0 := (Box.new hf 24 #[.int .i64 x1, .int .i64 x2]).alloc (.cells #[.int .i64 y1, .int .i64 y2] 24)
  have y0 : Box ((w.alloc (.cells #[.int .i64 x1, .int .i64 x2] 24)).alloc (.cells #[.int .i64 y1, .int .i64 y2] 24)) own (w.heap.size + 1) 24 #[.int .i64 y1, .int .i64 y2] := by
    have := Box.new (hf.alloc (.cells #[.int .i64 x1, .int .i64 x2] 24)) 24 #[.int .i64 y1, .int .i64 y2]
    simpa using this
  have C0 := Lib.hid (Kept.cons (T := [0]) (show _ = some (Value.int .i64 x1) from x0.blk.cell 0) (by show own w.heap.size ∈ _; rw [x0.zero]; simp) (Kept.cons (show _ = some (Value.int .i64 x2) from x0.blk.cell 1) (by show own w.heap.size ∈ _; rw [x0.zero]; simp) (Kept.cons (show _ = some (Value.int .i64 y1) from y0.blk.cell 0) (by show own (w.heap.size + 1) ∈ _; rw [y0.zero]; simp) (Kept.cons (show _ = some (Value.int .i64 y2) from y0.blk.cell 1) (by show own (w.heap.size + 1) ∈ _; rw [y0.zero]; simp) Kept.nil))))
  clear h htu hf x0 y0
  go_enter Try.func38, Try.ntmps38
  go_wp2_with fail
  generalize (w.alloc (.cells #[.int .i64 x1, .int .i64 x2] 24)).alloc (.cells #[.int .i64 y1, .int .i64 y2] 24) = W0 at *
  refine region_free _ [0, 1, 3, 4] 4 (by kernel_rfl) (by kernel_rfl) (by kernel_rfl) (by kernel_rfl) (by kernel_rfl) (fun _ _ _ _ _ h => h) C0.out.drew.1 ?_
  intro hne hu
  simp only [AllCells] at hu
  simp only [pick, List.take_succ_cons, List.take_zero, List.drop_succ_cons, List.drop_zero, List.cons_append, List.nil_append]
  repeat (go_big_quiet_step (fail))
  refine wpQuiet_nil ?_
  clear hne hu
  refine anyN_oneL 2 (by kernel_rfl) ?_
  simp only [List.take_succ_cons, List.take_zero, List.drop_succ_cons, List.drop_zero]
  go_wp2_with fail
  refine (rfind_c W0.drew own t p ids live x1 x2 (H0.out.keep Same.drew)).mono ?_
  rintro e w1 ⟨rfl, hB1⟩
  rw [Hi.out]
  have C1 := Lib.hid (C0.out.drew.next hB1)
  have H1 := Lib.hid ((H0.out.keep Same.drew).next hB1)
  have T1 := Lib.hid (T0.out.drew.below hB1)
  clear hB1 C0 H0 T0
  go_wp2_with fail
  refine And.intro (fun _ => C1.out.1) ?_
  refine anyN_oneL 5 (by kernel_rfl) ?_
  simp only [List.take_succ_cons, List.take_zero, List.drop_succ_cons, List.drop_zero]
  go_wp2_with fail
  refine (rfind_c w1 own t p ids live y1 y2 H1.out).mono ?_
  rintro e w2 ⟨rfl, hB2⟩
  rw [Hj.out]
  have hi0 : ¬ ((i : Int) < 0) := by omega
  have hj0 : ¬ ((j : Int) < 0) := by omega
  have hji : ¬ ((j : Int) < (i : Int)) := by omega
  have C2 := Lib.hid (C1.out.next hB2)
  have H2 := Lib.hid (H1.out.next hB2)
  have T2 := Lib.hid (T1.out.below hB2)
  clear hB2 C1 H1 T1
  go_wp2_with fail
  refine And.intro (fun _ => C2.out.1) ?_
  refine anyN_more [6, 7] 0 (by kernel_rfl) (by kernel_rfl) (by kernel_rfl) (by kernel_rfl) (fun _ _ _ _ _ h => h) C2.out.1 ?_
  intro hne hu
  simp only [AllCells] at hu
  simp only [pick, List.take_succ_cons, List.take_zero, List.drop_succ_cons, List.drop_zero, List.cons_append, List.nil_append]
  repeat (go_big_quiet_step (fail))
  refine wpQuiet_nil ?_
  clear hne hu
  refine ⟨by kernel_rfl, ?_⟩
  go_wp2_with fail
  go_loopw [9, 10] (fun v iv wr => ∃ (k : Nat) (own1 : Tags), i ≤ k ∧ k ≤ j + 1 ∧ iv = .int .i64 k ∧ OR w own u (seg ids live i k) own1 v wr ∧ RefAt wr own1 t p ids live) (fun _ iv _ => j + 1 - (intOf iv).toNat)
  case atStart => exact ⟨i, own, Nat.le_refl _, by omega, rfl, ⟨T2.out, by rw [seg_self]; exact Row.nil _ _ _ _ _⟩, H2.out⟩
  case round =>
    clear T2 H2
    obtain ⟨k, own1, hlk, hk, rfl, o0, h0⟩ := hrel
    have O0 := Lib.hid o0
    have H0 := Lib.hid h0
    clear o0 h0
    by_cases hlt : k ≤ j
    · obtain ⟨bI, oI, cI, bL, oL, cL, z1, z2, b, c0, c1, g1, g2, g3, hz, hb⟩ := H0.out.look (k := k) (by omega)
      have Hs := Lib.hid (seg_succ ids live Hlen.out i k (z1, z2) b hlk hz hb)
      have hk0 : (0 : Int) ≤ (k : Int) := by omega
      have hkn : (k : Int) < (ids.length : Int) := by omega
      have hkh : (k : Int) ≤ (j : Int) := by omega
      clear hz hb
      cases b
      · go_wp2_with fail
        go_roundw
        case rel => exact ⟨k + 1, own1, by omega, by omega, by go_num, by rw [Hs.out]; simpa using O0.out, H0.out⟩
        case measure => simp [intOf]; omega
      · obtain ⟨i0, hii, hz0, hz1, hz2⟩ := info_parts Try.info24
        have O1 := Lib.hid (O0.out.alloc (.cells #[.int .i64 z1, .int .i64 z2] 24))
        have H1 := Lib.hid (H0.out.next ((Below.refl _ _).alloc (Nat.le_refl _) (.cells #[.int .i64 z1, .int .i64 z2] 24)))
        have hln := Lib.hid (length_seg ids live i k)
        obtain ⟨A, c, hv, _⟩ := O0.out.row.form
        subst hv
        go_wp2_with (at_builtin; refine wpList_append_own_at _ rfl _ _ _ rfl 0 24 i0 _ 2 16 Try.underlying22 hii hz0 hz1 hz2 rfl (by omega) _ _ _ rfl O1.out.row.1 ⟨wr.heap.size, 0, none⟩ 1 1 [.int .i64 z1, .int .i64 z2] rfl rfl (news_new wr wr.heap.size rfl #[.int .i64 z1, .int .i64 z2] 24) (by simp [Value.oneCell']) (by have := hln.out; simp only [maxLen]; omega) (by have := hln.out; omega) (Nat.zero_le _) ?_; intro v' w2 hown2 hgrow2 _ hat2)
        obtain ⟨ow2, r2, h2⟩ := O1.out.grow2 (l' := seg ids live i (k + 1)) hgrow2 (by rw [Hs.out]; simpa [idCells_append, idCells] using hown2) hat2
        go_roundw
        case rel => first | exact ⟨k + 1, ow2, by omega, by omega, by go_num, r2, H1.out.other h2 Htu.out⟩ | exact ⟨k + 1, by omega, by omega, by go_num, ow2, r2, H1.out.other h2 Htu.out⟩
        case measure => simp [intOf]; omega
    · have hkk : k = j + 1 := by omega
      subst hkk
      have hkn : ¬ ((((j + 1 : Nat)) : Int) ≤ (j : Int)) := by omega
      have hkn2 : ¬ (((j : Int) + 1) ≤ (j : Int)) := by omega
      go_wp2_with fail
      go_ret
      exact ⟨_, own1, rfl, O0.out.tr, O0.out.row⟩


set_option maxRecDepth 100000 in
set_option maxHeartbeats 4000000 in
theorem rbet_down (w : World) (own : Tags) (t u p : Nat) (ids : List Id) (live : List Bool) (x1 x2 y1 y2 : Int) (i j : Nat) (hi : idxI (x1, x2) ids = i) (hj : idxI (y1, y2) ids = j) (hij : j < i) (hjl : i < ids.length) (h : RefAt w own t p ids live) (htu : t ≠ u) (hf : Fresh own w) :
    Calls Try.prog 38 #[.pointer (some ⟨p, 0, none⟩), .agg #[.int .i64 x1, .int .i64 x2], .agg #[.int .i64 y1, .int .i64 y2]] w (ListP w own u (seg ids live j (i + 1))) := by
  have hle := h.le
  have Hi := Lib.hid hi
  have Hj := Lib.hid hj
  clear hi hj
  have Hlen := Lib.hid h.len
  have Htu := Lib.hid htu
  have H0 := Lib.hid ((h.next ((Below.refl _ _).alloc (Nat.le_refl _) (.cells #[.int .i64 x1, .int .i64 x2] 24))).next ((Below.refl _ _).alloc (Nat.le_refl _) (.cells #[.int .i64 y1, .int .i64 y2] 24)))
  have T0 := Lib.hid (((Tr.refl own u w).alloc (.cells #[.int .i64 x1, .int .i64 x2] 24)).alloc (.cells #[.int .i64 y1, .int .i64 y2] 24))
  have x0 := (Box.new hf 24 #[.int .i64 x1, .int .i64 x2]).alloc (.cells #[.int .i64 y1, .int .i64 y2] 24)
  have y0 : Box ((w.alloc (.cells #[.int .i64 x1, .int .i64 x2] 24)).alloc (.cells #[.int .i64 y1, .int .i64 y2] 24)) own (w.heap.size + 1) 24 #[.int .i64 y1, .int .i64 y2] := by
    have := Box.new (hf.alloc (.cells #[.int .i64 x1, .int .i64 x2] 24)) 24 #[.int .i64 y1, .int .i64 y2]
    simpa using this
  have C0 := Lib.hid (Kept.cons (T := [0]) (show _ = some (Value.int .i64 x1) from x0.blk.cell 0) (by show own w.heap.size ∈ _; rw [x0.zero]; simp) (Kept.cons (show _ = some (Value.int .i64 x2) from x0.blk.cell 1) (by show own w.heap.size ∈ _; rw [x0.zero]; simp) (Kept.cons (show _ = some (Value.int .i64 y1) from y0.blk.cell 0) (by show own (w.heap.size + 1) ∈ _; rw [y0.zero]; simp) (Kept.cons (show _ = some (Value.int .i64 y2) from y0.blk.cell 1) (by show own (w.heap.size + 1) ∈ _; rw [y0.zero]; simp) Kept.nil))))
  clear h htu hf x0 y0
  go_enter Try.func38, Try.ntmps38
  go_wp2_with fail
  generalize (w.alloc (.cells #[.int .i64 x1, .int .i64 x2] 24)).alloc (.cells #[.int .i64 y1, .int .i64 y2] 24) = W0 at *
  refine region_free _ [0, 1, 3, 4] 4 (by kernel_rfl) (by kernel_rfl) (by kernel_rfl) (by kernel_rfl) (by kernel_rfl) (fun _ _ _ _ _ h => h) C0.out.drew.1 ?_
  intro hne hu
  simp only [AllCells] at hu
  simp only [pick, List.take_succ_cons, List.take_zero, List.drop_succ_cons, List.drop_zero, List.cons_append, List.nil_append]
  repeat (go_big_quiet_step (fail))
  refine wpQuiet_nil ?_
  clear hne hu
  refine anyN_oneL 2 (by kernel_rfl) ?_
  simp only [List.take_succ_cons, List.take_zero, List.drop_succ_cons, List.drop_zero]
  go_wp2_with fail
  refine (rfind_c W0.drew own t p ids live x1 x2 (H0.out.keep Same.drew)).mono ?_
  rintro e w1 ⟨rfl, hB1⟩
  rw [Hi.out]
  have C1 := Lib.hid (C0.out.drew.next hB1)
  have H1 := Lib.hid ((H0.out.keep Same.drew).next hB1)
  have T1 := Lib.hid (T0.out.drew.below hB1)
  clear hB1 C0 H0 T0
  go_wp2_with fail
  refine And.intro (fun _ => C1.out.1) ?_
  refine anyN_oneL 5 (by kernel_rfl) ?_
  simp only [List.take_succ_cons, List.take_zero, List.drop_succ_cons, List.drop_zero]
  go_wp2_with fail
  refine (rfind_c w1 own t p ids live y1 y2 H1.out).mono ?_
  rintro e w2 ⟨rfl, hB2⟩
  rw [Hj.out]
  have hi0 : ¬ ((i : Int) < 0) := by omega
  have hj0 : ¬ ((j : Int) < 0) := by omega
  have hji : ((j : Int) < (i : Int)) := by omega
  have C2 := Lib.hid (C1.out.next hB2)
  have H2 := Lib.hid (H1.out.next hB2)
  have T2 := Lib.hid (T1.out.below hB2)
  clear hB2 C1 H1 T1
  go_wp2_with fail
  refine And.intro (fun _ => C2.out.1) ?_
  refine anyN_more [6, 7] 0 (by kernel_rfl) (by kernel_rfl) (by kernel_rfl) (by kernel_rfl) (fun _ _ _ _ _ h => h) C2.out.1 ?_
  intro hne hu
  simp only [AllCells] at hu
  simp only [pick, List.take_succ_cons, List.take_zero, List.drop_succ_cons, List.drop_zero, List.cons_append, List.nil_append]
  repeat (go_big_quiet_step (fail))
  refine wpQuiet_nil ?_
  clear hne hu
  refine ⟨by kernel_rfl, ?_⟩
  go_wp2_with fail
  go_loopw [9, 10] (fun v iv wr => ∃ (k : Nat) (own1 : Tags), j ≤ k ∧ k ≤ i + 1 ∧ iv = .int .i64 k ∧ OR w own u (seg ids live j k) own1 v wr ∧ RefAt wr own1 t p ids live) (fun _ iv _ => i + 1 - (intOf iv).toNat)
  case atStart => exact ⟨j, own, Nat.le_refl _, by omega, rfl, ⟨T2.out, by rw [seg_self]; exact Row.nil _ _ _ _ _⟩, H2.out⟩
  case round =>
    clear T2 H2
    obtain ⟨k, own1, hlk, hk, rfl, o0, h0⟩ := hrel
    have O0 := Lib.hid o0
    have H0 := Lib.hid h0
    clear o0 h0
    by_cases hlt : k ≤ i
    · obtain ⟨bI, oI, cI, bL, oL, cL, z1, z2, b, c0, c1, g1, g2, g3, hz, hb⟩ := H0.out.look (k := k) (by omega)
      have Hs := Lib.hid (seg_succ ids live Hlen.out j k (z1, z2) b hlk hz hb)
      have hk0 : (0 : Int) ≤ (k : Int) := by omega
      have hkn : (k : Int) < (ids.length : Int) := by omega
      have hkh : (k : Int) ≤ (i : Int) := by omega
      clear hz hb
      cases b
      · go_wp2_with fail
        go_roundw
        case rel => exact ⟨k + 1, own1, by omega, by omega, by go_num, by rw [Hs.out]; simpa using O0.out, H0.out⟩
        case measure => simp [intOf]; omega
      · obtain ⟨i0, hii, hz0, hz1, hz2⟩ := info_parts Try.info24
        have O1 := Lib.hid (O0.out.alloc (.cells #[.int .i64 z1, .int .i64 z2] 24))
        have H1 := Lib.hid (H0.out.next ((Below.refl _ _).alloc (Nat.le_refl _) (.cells #[.int .i64 z1, .int .i64 z2] 24)))
        have hln := Lib.hid (length_seg ids live j k)
        obtain ⟨A, c, hv, _⟩ := O0.out.row.form
        subst hv
        go_wp2_with (at_builtin; refine wpList_append_own_at _ rfl _ _ _ rfl 0 24 i0 _ 2 16 Try.underlying22 hii hz0 hz1 hz2 rfl (by omega) _ _ _ rfl O1.out.row.1 ⟨wr.heap.size, 0, none⟩ 1 1 [.int .i64 z1, .int .i64 z2] rfl rfl (news_new wr wr.heap.size rfl #[.int .i64 z1, .int .i64 z2] 24) (by simp [Value.oneCell']) (by have := hln.out; simp only [maxLen]; omega) (by have := hln.out; omega) (Nat.zero_le _) ?_; intro v' w2 hown2 hgrow2 _ hat2)
        obtain ⟨ow2, r2, h2⟩ := O1.out.grow2 (l' := seg ids live j (k + 1)) hgrow2 (by rw [Hs.out]; simpa [idCells_append, idCells] using hown2) hat2
        go_roundw
        case rel => first | exact ⟨k + 1, ow2, by omega, by omega, by go_num, r2, H1.out.other h2 Htu.out⟩ | exact ⟨k + 1, by omega, by omega, by go_num, ow2, r2, H1.out.other h2 Htu.out⟩
        case measure => simp [intOf]; omega
    · have hkk : k = i + 1 := by omega
      subst hkk
      have hkn : ¬ ((((i + 1 : Nat)) : Int) ≤ (i : Int)) := by omega
      have hkn2 : ¬ (((i : Int) + 1) ≤ (i : Int)) := by omega
      go_wp2_with fail
      go_ret
      exact ⟨_, own1, rfl, O0.out.tr, O0.out.row⟩


set_option maxRecDepth 100000 in
set_option maxHeartbeats 4000000 in
theorem rbet_none (w : World) (own : Tags) (t u p : Nat) (ids : List Id) (live : List Bool) (x1 x2 y1 y2 : Int) (hij : idxI (x1, x2) ids = -1 ∨ idxI (y1, y2) ids = -1) (h : RefAt w own t p ids live) (htu : t ≠ u) (hf : Fresh own w) :
    Calls Try.prog 38 #[.pointer (some ⟨p, 0, none⟩), .agg #[.int .i64 x1, .int .i64 x2], .agg #[.int .i64 y1, .int .i64 y2]] w (ListP w own u ([])) := by
  have Hij := Lib.hid hij
  clear hij
  have Hlen := Lib.hid h.len
  have Htu := Lib.hid htu
  have H0 := Lib.hid ((h.next ((Below.refl _ _).alloc (Nat.le_refl _) (.cells #[.int .i64 x1, .int .i64 x2] 24))).next ((Below.refl _ _).alloc (Nat.le_refl _) (.cells #[.int .i64 y1, .int .i64 y2] 24)))
  have T0 := Lib.hid (((Tr.refl own u w).alloc (.cells #[.int .i64 x1, .int .i64 x2] 24)).alloc (.cells #[.int .i64 y1, .int .i64 y2] 24))
  have x0 := (Box.new hf 24 #[.int .i64 x1, .int .i64 x2]).alloc (.cells #[.int .i64 y1, .int .i64 y2] 24)
  have y0 : Box ((w.alloc (.cells #[.int .i64 x1, .int .i64 x2] 24)).alloc (.cells #[.int .i64 y1, .int .i64 y2] 24)) own (w.heap.size + 1) 24 #[.int .i64 y1, .int .i64 y2] := by
    have := Box.new (hf.alloc (.cells #[.int .i64 x1, .int .i64 x2] 24)) 24 #[.int .i64 y1, .int .i64 y2]
    simpa using this
  have C0 := Lib.hid (Kept.cons (T := [0]) (show _ = some (Value.int .i64 x1) from x0.blk.cell 0) (by show own w.heap.size ∈ _; rw [x0.zero]; simp) (Kept.cons (show _ = some (Value.int .i64 x2) from x0.blk.cell 1) (by show own w.heap.size ∈ _; rw [x0.zero]; simp) (Kept.cons (show _ = some (Value.int .i64 y1) from y0.blk.cell 0) (by show own (w.heap.size + 1) ∈ _; rw [y0.zero]; simp) (Kept.cons (show _ = some (Value.int .i64 y2) from y0.blk.cell 1) (by show own (w.heap.size + 1) ∈ _; rw [y0.zero]; simp) Kept.nil))))
  clear h htu hf x0 y0
  go_enter Try.func38, Try.ntmps38
  go_wp2_with fail
  generalize (w.alloc (.cells #[.int .i64 x1, .int .i64 x2] 24)).alloc (.cells #[.int .i64 y1, .int .i64 y2] 24) = W0 at *
  refine region_free _ [0, 1, 3, 4] 4 (by kernel_rfl) (by kernel_rfl) (by kernel_rfl) (by kernel_rfl) (by kernel_rfl) (fun _ _ _ _ _ h => h) C0.out.drew.1 ?_
  intro hne hu
  simp only [AllCells] at hu
  simp only [pick, List.take_succ_cons, List.take_zero, List.drop_succ_cons, List.drop_zero, List.cons_append, List.nil_append]
  repeat (go_big_quiet_step (fail))
  refine wpQuiet_nil ?_
  clear hne hu
  refine anyN_oneL 2 (by kernel_rfl) ?_
  simp only [List.take_succ_cons, List.take_zero, List.drop_succ_cons, List.drop_zero]
  go_wp2_with fail
  refine (rfind_c W0.drew own t p ids live x1 x2 (H0.out.keep Same.drew)).mono ?_
  rintro e w1 ⟨rfl, hB1⟩
  have C1 := Lib.hid (C0.out.drew.next hB1)
  have H1 := Lib.hid ((H0.out.keep Same.drew).next hB1)
  have T1 := Lib.hid (T0.out.drew.below hB1)
  clear hB1 C0 H0 T0
  go_wp2_with fail
  refine And.intro (fun _ => C1.out.1) ?_
  refine anyN_oneL 5 (by kernel_rfl) ?_
  simp only [List.take_succ_cons, List.take_zero, List.drop_succ_cons, List.drop_zero]
  go_wp2_with fail
  refine (rfind_c w1 own t p ids live y1 y2 H1.out).mono ?_
  rintro e w2 ⟨rfl, hB2⟩
  have C2 := Lib.hid (C1.out.next hB2)
  have H2 := Lib.hid (H1.out.next hB2)
  have T2 := Lib.hid (T1.out.below hB2)
  clear hB2 C1 H1 T1
  go_wp2_with fail
  refine And.intro (fun _ => C2.out.1) ?_
  refine anyN_more [6, 7] 0 (by kernel_rfl) (by kernel_rfl) (by kernel_rfl) (by kernel_rfl) (fun _ _ _ _ _ h => h) C2.out.1 ?_
  intro hne hu
  simp only [AllCells] at hu
  simp only [pick, List.take_succ_cons, List.take_zero, List.drop_succ_cons, List.drop_zero, List.cons_append, List.nil_append]
  repeat (go_big_quiet_step (fail))
  refine wpQuiet_nil ?_
  clear hne hu
  refine ⟨by kernel_rfl, ?_⟩
  rcases Hij.out with hi | hj
  · rw [hi]
    generalize idxI (y1, y2) ids = r at *
    clear hi
    go_wp2_with fail
    go_ret
    exact ⟨_, own, rfl, T2.out, Row.nil _ _ _ _ _⟩
  · rw [hj]
    rcases Int.lt_or_le (idxI (x1, x2) ids) 0 with h0 | h0
    · generalize idxI (x1, x2) ids = r at *
      clear hj
      go_wp2_with fail
      go_ret
      exact ⟨_, own, rfl, T2.out, Row.nil _ _ _ _ _⟩
    · have h1 : ¬ (idxI (x1, x2) ids < 0) := by omega
      generalize idxI (x1, x2) ids = r at *
      clear hj
      go_wp2_with fail
      go_ret
      exact ⟨_, own, rfl, T2.out, Row.nil _ _ _ _ _⟩

theorem rbetween_c (w : World) (own : Tags) (t u p : Nat) (ids : List Id) (live : List Bool) (x1 x2 y1 y2 : Int) (h : RefAt w own t p ids live) (htu : t ≠ u) (hf : Fresh own w) :
    Calls Try.prog 38 #[.pointer (some ⟨p, 0, none⟩), .agg #[.int .i64 x1, .int .i64 x2], .agg #[.int .i64 y1, .int .i64 y2]] w (ListP w own u (betweenL ids live (x1, x2) (y1, y2))) := by
  have idx : ∀ z : Id, z ∈ ids → idxI z ids = (ids.idxOf z : Int) ∧ ids.idxOf z < ids.length := fun z hz => ⟨by unfold idxI; rw [if_pos hz], List.idxOf_lt_length_iff.2 hz⟩
  by_cases hij : (x1, x2) ∈ ids ∧ (y1, y2) ∈ ids
  · obtain ⟨e1, l1⟩ := idx _ hij.1
    obtain ⟨e2, l2⟩ := idx _ hij.2
    rw [betweenL_seg ids live h.len _ _ hij.1 hij.2]
    by_cases hle : ids.idxOf (x1, x2) ≤ ids.idxOf (y1, y2)
    · rw [Nat.min_eq_left hle, Nat.max_eq_right hle]
      exact rbet_up w own t u p ids live x1 x2 y1 y2 _ _ e1 e2 hle l2 h htu hf
    · rw [Nat.min_eq_right (by omega), Nat.max_eq_left (by omega)]
      exact rbet_down w own t u p ids live x1 x2 y1 y2 _ _ e1 e2 (by omega) l1 h htu hf
  · have e : betweenL ids live (x1, x2) (y1, y2) = [] := by unfold betweenL; rw [if_neg hij]
    rw [e]
    refine rbet_none w own t u p ids live x1 x2 y1 y2 ?_ h htu hf
    by_cases h1 : (x1, x2) ∈ ids
    · right; unfold idxI; rw [if_neg (fun h2 => hij ⟨h1, h2⟩)]
    · left; unfold idxI; rw [if_neg h1]


set_option maxRecDepth 100000 in
set_option maxHeartbeats 2000000 in
theorem rplace_c (w : World) (own : Tags) (t u p : Nat) (ids : List Id) (live : List Bool) (x y : Int) (h : RefAt w own t p ids live) (htu : t ≠ u) (hf : Fresh own w) (hu : u ≠ 0) :
    Calls Try.prog 40 #[.pointer (some ⟨p, 0, none⟩), .agg #[.int .i64 x, .int .i64 y]] w fun e w' => e = .returned (.int .i64 (idxI (x, y) (aliveOf ids live))) ∧ ∃ own', Tr own u w own' w' := by
  have hll : (aliveOf ids live).length ≤ 1000 := Nat.le_trans (length_aliveOf _ _) h.le
  have HH := Lib.hid h
  have Htu := Lib.hid htu
  have X0 := Lib.hid (Box.new hf 24 #[.int .i64 x, .int .i64 y])
  obtain ⟨L, hL⟩ : ∃ L, aliveOf ids live = L := ⟨_, rfl⟩
  rw [hL] at hll ⊢
  have HL := Lib.hid hL
  clear hL
  have Hu := Lib.hid hu
  clear h htu hf hu
  go_enter Try.func40, Try.ntmps40
  go_wp2_with fail
  refine (rorder_c _ own t u p ids live (HH.out.next ((Below.refl _ _).alloc (Nat.le_refl _) _)) Htu.out).mono ?_
  rintro e w1 ⟨v, own1, rfl, tr1, row1⟩
  have X1 := Lib.hid (X0.out.tr tr1 Hu.out)
  have T1 := Lib.hid (((Tr.refl own u w).alloc _).trans tr1)
  have R1 := Lib.hid row1
  obtain ⟨A, c, hv, _⟩ := row1.form
  subst hv
  rw [HL.out] at R1 ⊢
  clear tr1 row1 X0 HH
  have c0 := X1.out.blk.cell 0
  have c1 := X1.out.blk.cell 1
  simp only [List.getElem?_toArray, List.getElem?_cons_zero, List.getElem?_cons_succ] at c0 c1
  go_wp2_with fail
  go_loopw [6] (fun i wr => ∃ k q : Nat, k ≤ L.length ∧ i = .int .i64 k ∧ Hid (∀ j, j < k → L[j]? ≠ some (x, y)) ∧ wr = w1.drewN q) (fun i _ => L.length - (intOf i).toNat)
  case atStart => exact ⟨0, 0, Nat.zero_le _, rfl, (fun j hj => absurd hj (by omega)), rfl⟩
  case round =>
    obtain ⟨k, q, hk, rfl, hno, rfl⟩ := hrel
    by_cases hlt : k < L.length
    · obtain ⟨b, off, hA, _, hb, hc⟩ := R1.out.toIdsR.2 (fun e => by rw [e] at hlt; simp at hlt)
      obtain ⟨g1, g2⟩ := hc k hlt
      subst hA
      have hz := Lib.hid (List.getElem?_eq_getElem hlt)
      clear hc
      generalize L[k] = z at *
      obtain ⟨z1, z2⟩ := z
      dsimp only at g1 g2
      have hk0 : (0 : Int) ≤ (k : Int) := by omega
      have hkn : (k : Int) < (L.length : Int) := by omega
      cases hq : ideq z1 z2 x y
      · have Hq := Lib.hid (ideq_false.1 hq)
        go_wp2
        go_quiet (fail)
        go_wp2
        go_roundw
        case rel =>
          refine ⟨k + 1, _, by omega, by go_num, ?_, rfl⟩
          intro j hj
          by_cases hjk : j < k
          · exact hno.out j hjk
          · have : j = k := by omega
            subst this
            rw [hz.out]
            intro e
            have e := Option.some.inj e
            simp only [Prod.mk.injEq] at e
            exact Hq.out e
        case measure => simp [intOf]; omega
      · have Hq := Lib.hid (ideq_true.1 hq)
        go_wp2
        go_quiet (fail)
        go_wp2
        go_ret
        obtain ⟨rfl, rfl⟩ := Hq.out
        exact ⟨ret_int (idxI_hit hz.out hno.out).symm, own1, (T1.out.drewN _).drewN _⟩
    · go_wp2
      go_ret
      exact ⟨ret_int (idxI_miss (fun j hj => hno.out j (by omega))).symm, own1, T1.out.drewN _⟩
end Go.Proofs.Ytgmlhpkhecbkoaa
