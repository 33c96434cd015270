/-
  slices.Insert of one element at bools. Condition: the slice is a row of one's own of at most 1,000 elements, the place lies in it.
-/
import Derived.Test.YtgmlhpkhecbkoaaI1
import Derived.Laws.Externs
namespace Go.Proofs.Ytgmlhpkhecbkoaa
open Go.RowKit

set_option maxRecDepth 100000 in
set_option maxHeartbeats 2000000 in
theorem insB_end (A : Option Addr) (n c vb : Nat) (xs vs : List Value) (w : World) (hown : w.ownsRow 0 4 1 (.slice A n c) n xs) (hn : n ≤ 1000) (hvb : Blk w vb 4 vs.toArray) (hvs : vs.length = 1) (h1 : ∀ u ∈ vs, u.oneCell' = true) :
    Calls Try.prog 66 #[.slice A n c, .int .i64 n, .slice (some ⟨vb, 0, none⟩) 1 1] w (InsP w 4 1 (A.map (·.block)) n (xs ++ vs)) := by
  obtain ⟨i0, hi, hi0, hi1, hi2⟩ := info_parts Try.info4
  have hnc : n ≤ c ∧ c ≤ 9223372036854775807 := by
    rcases hown.2 with ⟨hv, h0⟩ | ⟨g, cap, cur, hv, _, _, h2, h3, _⟩
    · injection hv with _ _ hv; omega
    · injection hv with _ _ hv; subst hv; exact ⟨h2, by simpa only [maxLen] using h3⟩
  obtain ⟨hnc, hc63⟩ := hnc
  have hnews := Lib.hid (fun (j : Nat) (u : Value) (hu : vs[j]? = some u) => World.news_of_block (cs := vs.toArray) hvb j u (by simpa using hu))
  have HO := Lib.hid hown
  have HV := Lib.hid hvs
  have H1 := Lib.hid h1
  have he : ((n : Int) == (n : Int)) = true := by simp
  have hn0 : (0 : Int) ≤ (n : Int) := by omega
  clear hown hvb hvs h1
  go_enter Try.func66, Try.ntmps66
  go_wp2_with (at_builtin; refine wpList_append_lies _ rfl _ _ _ rfl 0 4 i0 _ 1 1 Try.underlying53 hi hi0 hi1 hi2 rfl (by omega) (.slice A n _) n xs rfl HO.out ⟨vb, 0, none⟩ 1 1 vs rfl (by rw [HV.out]) hnews.out H1.out (by omega) (by simp only [maxLen]; omega) (by omega) (Nat.zero_le _) _ rfl ?_; intro g cap w1 hown1 hgrow1 hat1 hlt1; rw [ownBlock_slice] at hgrow1 hat1)
  all_goals
    go_ret
    exact ⟨g, cap, rfl, hgrow1, hown1, hat1.imp id (fun h => ⟨Nat.le_of_eq h.symm, hlt1⟩)⟩

set_option maxRecDepth 100000 in
set_option maxHeartbeats 2000000 in
theorem insB_grow (g n i vb : Nat) (cur : Array Value) (vs : List Value) (w : World) (hg : Blk w g 4 cur) (hsz : cur.size = n) (hn : n ≤ 1000) (hin : i < n) (hvb : Blk w vb 4 vs.toArray) (hvs : vs.length = 1) (h1 : ∀ u ∈ vs, u.oneCell' = true) (h1c : ∀ u ∈ cur.toList, u.oneCell' = true) :
    Calls Try.prog 66 #[.slice (some ⟨g, 0, none⟩) n n, .int .i64 i, .slice (some ⟨vb, 0, none⟩) 1 1] w (InsP w 4 1 (some g) n (cur.toList.take (i) ++ vs ++ cur.toList.drop (i))) := by
  obtain ⟨i0, hi, hi0, hi1, hi2⟩ := info_parts Try.info4
  have he : ((i : Int) == (n : Int)) = false := by simp; omega
  have hi00 : (0 : Int) ≤ (i : Int) := by omega
  have hil : (i : Int) ≤ (n : Int) := by omega
  have hkk : (n : Int) + 1 - (i : Int) = ((n + 1 - i : Nat) : Int) := by omega
  have hold : (Builtin.firstCells i0.size i (.slice (some ⟨g, 0, none⟩) i n)).run Try.prog w.drew = .ok (cur.toList.take (i)).toArray w.drew := by
    rw [hi1]
    exact run_firstCells_some w.drew 1 i ⟨g, 0, none⟩ i n (cur.toList.take (i)) (by rw [List.length_take, Array.length_toList, hsz]; omega) (fun j v hj => by
      rw [List.getElem?_take] at hj
      split at hj
      · exact World.news_of_block hg j v hj
      · cases hj)
  have hrz : ∀ ty, (Builtin.append_ #[53, 3] ty #[.slice (some ⟨g, 0, none⟩) i n, .int .i64 ((n : Int) + 1 - (i : Int))]).run Try.prog w =
      .ok (.slice (some ⟨w.heap.size, 0, none⟩) (n + 1) (grownCap w (n + 1) n 4)) (w.drew.alloc (.cells ((cur.toList.take (i)).toArray ++ Builtin.zeroCells (.bool false : Value).cells (n + 1 - i) ++ Builtin.zeroCells (.bool false : Value).cells (grownCap w (n + 1) n 4 - (n + 1))) 4)) := fun ty => by
    have h := Lib.run_append_grow_zeros w 53 3 ty 4 i0 _ .i64 .i64 Try.underlying53 Try.underlying3 hi hi0 (some ⟨g, 0, none⟩) i n (cur.toList.take (i)) hold (n + 1 - i) (by omega) (by omega) (by omega) (by omega) (by rw [hi2]; omega) (by rw [hi2, show i + (n + 1 - i) = n + 1 by omega]; exact growslice_fits (by omega) (by omega))
    rw [show i + (n + 1 - i) = n + 1 by omega] at h
    rw [hkk]
    exact h
  obtain ⟨G, hG⟩ : ∃ G, G = grownCap w (n + 1) n 4 := ⟨_, rfl⟩
  have hGn : n + 1 ≤ G := by rw [hG]; exact grownCap_ge w _ _ _
  have hG63 : G ≤ 9223372036854775807 := by
    have := grownCap_le_maxLen w (n + 1) n 4 (by unfold maxLen; omega)
    rw [← hG] at this
    unfold maxLen at this
    omega
  rw [← hG] at hrz
  obtain ⟨zs, hzs⟩ : ∃ zs : List Value, zs = (Builtin.zeroCells (.bool false : Value).cells (n + 1 - i) ++ Builtin.zeroCells (.bool false : Value).cells (G - (n + 1))).toList := ⟨_, rfl⟩
  have hzl : zs.length = (G - i) * 1 := by
    rw [hzs]; simp [Builtin.zeroCells, Value.cells]; omega
  have hrow : (cur.toList.take (i)).toArray ++ Builtin.zeroCells (.bool false : Value).cells (n + 1 - i) ++ Builtin.zeroCells (.bool false : Value).cells (G - (n + 1)) = (cur.toList.take (i) ++ zs).toArray := by
    rw [hzs]; simp
  simp only [hrow] at hrz
  have hlen : (cur.toList.take (i) ++ zs).length = G * 1 := by rw [List.length_append, List.length_take, Array.length_toList, hzl, hsz]; omega
  have hGi : ¬ (G = i) := by omega
  have hGim : ¬ (G = i + 1) := by omega
  have hni : ¬ (n = i) := by omega
  have hsz1 : (Try.prog.info? 4).map (·.size) = some 1 := by rw [hi]; simp [hi1]
  have Hb := Lib.hid hg
  have HV := Lib.hid hvb
  have Hlen := Lib.hid hlen
  have Hvs := Lib.hid hvs
  have H1 := Lib.hid h1
  have H1c := Lib.hid h1c
  have Hsz := Lib.hid hsz
  have Hzl := Lib.hid hzl
  have Hrz := Lib.hid hrz
  have hgw := hg.lt
  have hvw := hvb.lt
  clear hg hvb hlen hvs h1 h1c hG hzs hrow hold hkk hsz hzl hrz
  go_enter Try.func66, Try.ntmps66
  have HN := Lib.hid (Blk.new w 4 (cur.toList.take (i) ++ zs).toArray)
  have hcpA : ∀ ty, (Builtin.copy_ #[53, 53] ty #[.slice (some ⟨w.heap.size, i, none⟩) (n + 1 - i) (G - i), .slice (some ⟨vb, 0, none⟩) 1 1]).run Try.prog (w.alloc (.cells (cur.toList.take (i) ++ zs).toArray 4)).drew =
      .ok (goInt (1 : Nat)) ((w.alloc (.cells (cur.toList.take (i) ++ zs).toArray 4)).drew.setRow w.heap.size (spl (cur.toList.take (i) ++ zs) (i) vs).toArray) := fun ty => by
    have h := run_copy_blk (P := Try.prog) (w.alloc (.cells (cur.toList.take (i) ++ zs).toArray 4)).drew 53 ty 4 4 1 w.heap.size (i) (n + 1 - i) (G - i) ⟨vb, 0, none⟩ 1 1 (cur.toList.take (i) ++ zs).toArray vs Try.underlying53 hsz1 HN.out (by rw [Hvs.out, Nat.min_eq_left (by omega)])
      (fun j u hu => World.news_of_block (cs := vs.toArray) (HV.out.alloc (.cells (cur.toList.take (i) ++ zs).toArray 4)) j u (by simpa using hu)) (by rw [Hvs.out]; simp only [List.size_toArray, Hlen.out]; omega) H1.out
    rw [Nat.min_eq_left (show 1 ≤ n + 1 - i by omega)] at h
    exact h
  go_wp2_with (at_builtin; refine Lib.wpList_append_run _ rfl _ _ _ _ rfl _ _ rfl rfl _ _ (Hrz.out _) ?_)
  have hb2 : Blk ((w.alloc (.cells (cur.toList.take (i) ++ zs).toArray 4)).drew.setRow w.heap.size (spl (cur.toList.take (i) ++ zs) (i) vs).toArray) w.heap.size 4 (spl (cur.toList.take (i) ++ zs) (i) vs).toArray := Blk.setRow (w := (w.alloc (.cells (cur.toList.take (i) ++ zs).toArray 4)).drew) HN.out _
  have hg2 : w.grownBy ((w.alloc (.cells (cur.toList.take (i) ++ zs).toArray 4)).drew.setRow w.heap.size (spl (cur.toList.take (i) ++ zs) (i) vs).toArray) none := by
    have h1 := grownBy_setRow (w.alloc (.cells (cur.toList.take (i) ++ zs).toArray 4)).drew w.heap.size (spl (cur.toList.take (i) ++ zs) (i) vs).toArray
    have h0 := World.grownBy_alloc w (.cells (cur.toList.take (i) ++ zs).toArray 4) none
    exact ⟨rfl, rfl, rfl, Nat.le_trans h0.size h1.size, fun k hk _ => (h1.block k (by simp; omega) (by simp; omega)).trans (h0.block k hk (by simp))⟩
  clear hcpA HN
  generalize (w.alloc (.cells (cur.toList.take (i) ++ zs).toArray 4)).drew.setRow w.heap.size (spl (cur.toList.take (i) ++ zs) (i) vs).toArray = W2 at *
  have hw2 := hg2.size
  have HB2 := Lib.hid hb2
  have HG2 := Lib.hid hg2
  have HC2 := Lib.hid (Hb.out.kept (hg2.block g hgw (by simp)))
  clear hb2 hg2
  have hik : (0 : Int) ≤ (i : Int) + 1 := by omega
  have hik1 : IntKind.i64.wrap ((i : Int) + 1) = (i : Int) + 1 := by rw [IntKind.wrap_i64]; omega
  have hik2 : ((i : Int) + 1).toNat = i + 1 := by omega
  have hik3 : (i : Int) + 1 ≤ (n : Int) + 1 := by omega
  refine region_tail 8 (by kernel_rfl) (by kernel_rfl) ?_
  simp only [List.take_succ_cons, List.take_zero, List.drop_succ_cons, List.drop_zero]
  repeat (go_big_quiet_step (fail))
  refine wpQuiet_nil ?_
  refine wpList_copy_blk rfl (.tmp 50) (.tmp 53) 53 rfl 4 4 1 w.heap.size _ _ _ ⟨g, i, none⟩ _ _ _ (cur.toList.drop (i)) Try.underlying53 hsz1 rfl rfl HB2.out ?hn ?hsrc ?hfit (fun u hu => H1c.out u (List.mem_of_mem_drop hu)) ?_
  case hn => simp only [List.length_drop, Array.length_toList, Hsz.out]; rw [Nat.min_eq_left (by omega)]; omega
  case hsrc =>
    intro j u hu
    have h3 := World.news_of_block HC2.out (i + j) u (by rwa [List.getElem?_drop] at hu)
    have e1 : (⟨g, i, none⟩ : Addr).add j = (⟨g, 0, none⟩ : Addr).add (i + j) := by simp only [Addr.add_lit]; congr 1; omega
    rw [e1]; exact h3
  case hfit => simp only [List.size_toArray, List.length_drop, Array.length_toList, Hsz.out]; rw [spl_length _ _ _ (by rw [Hvs.out, Hlen.out]; omega), Hlen.out]; omega
  intro w3 hb3 hg3
  have hl2 : (spl (cur.toList.take (i) ++ zs) (i) vs).length = G * 1 := by rw [spl_length _ _ _ (by rw [Hvs.out, Hlen.out]; omega), Hlen.out]
  have hfin := spl_new cur.toList zs vs (i) 1 Hvs.out (by rw [Array.length_toList, Hsz.out]; omega) (by rw [Array.length_toList, Hsz.out, Hzl.out]; omega)
  rw [Array.length_toList, Hsz.out, show i + 1 = i + 1 by omega] at hfin
  have hl3 := spl_length (spl (cur.toList.take (i) ++ zs) (i) vs) (i + 1) (cur.toList.drop (i)) (by rw [hl2, List.length_drop, Array.length_toList, Hsz.out]; omega)
  have hpost : Hid (InsP w 4 1 (some g) n (cur.toList.take (i) ++ vs ++ cur.toList.drop (i)) (.returned (.slice (some ⟨w.heap.size, 0, none⟩) (n + 1) G)) w3) := by
    refine ⟨w.heap.size, G, rfl, ⟨hg3.os.trans HG2.out.os, hg3.tape.trans HG2.out.tape, hg3.output.trans HG2.out.output, Nat.le_trans HG2.out.size hg3.size, fun k hk _ => (hg3.block k (by simp; omega) (by simp; omega)).trans (HG2.out.block k hk (by simp))⟩, ⟨?_, .inr ⟨w.heap.size, G, _, rfl, Nat.zero_le _, hb3, hGn, by unfold maxLen; omega, ?_, ?_⟩⟩, .inr ⟨Nat.le_refl _, by have := hb3.lt; exact this⟩⟩
    · simp only [List.length_append, List.length_take, List.length_drop, Array.length_toList, Hsz.out, Hvs.out]; omega
    · simp only [List.size_toArray]
      exact hl3.trans hl2
    · simp only []
      rw [show (n + 1) * 1 = n + 1 by omega]
      exact hfin
  clear hb3 hg3 hfin hl2 hl3
  go_wp2
  go_ret
  exact hpost.out

set_option maxRecDepth 100000 in
set_option maxHeartbeats 2000000 in
theorem insB_shift (g n c i vb : Nat) (cur : Array Value) (vs : List Value) (w : World) (hg : Blk w g 4 cur) (hsz : cur.size = c * 1) (hn : n ≤ 1000) (hin : i < n) (hroom : n + 1 ≤ c) (hc63 : c ≤ 9223372036854775807) (hne : vb ≠ g) (hvb : Blk w vb 4 vs.toArray) (hvs : vs.length = 1) (h1 : ∀ u ∈ vs, u.oneCell' = true) (h1c : ∀ u ∈ cur.toList.take (n), u.oneCell' = true) :
    Calls Try.prog 66 #[.slice (some ⟨g, 0, none⟩) n c, .int .i64 i, .slice (some ⟨vb, 0, none⟩) 1 1] w (InsP w 4 1 (some g) n ((cur.toList.take (n)).take (i) ++ vs ++ (cur.toList.take (n)).drop (i))) := by
  obtain ⟨i0, hi, hi0, hi1, hi2⟩ := info_parts Try.info4
  have he : ((i : Int) == (n : Int)) = false := by simp; omega
  have hi00 : (0 : Int) ≤ (i : Int) := by omega
  have hil : (i : Int) ≤ (n : Int) := by omega
  have hz : ∀ w, (sizeOf 4).run Try.prog w = .ok 1 w := fun w => by kernel_rfl
  have hov : ∀ lb cb, (callFunc 83 #[.slice (some ⟨vb, 0, none⟩) 1 1, .slice (some ⟨g, i + 1, none⟩) lb cb]).run Try.prog w = .ok (.value (.bool false)) w := fun lb cb => by
    rw [run_callFunc_extern Try.func83 (by kernel_rfl) (by kernel_rfl) (by kernel_rfl) (e := Extern.SlicesOverlaps.overlaps #[53, 53] #[4]) (by kernel_rfl),
      Lib.run_overlaps_apart w 53 4 4 Try.underlying53 1 hz ⟨vb, 0, none⟩ ⟨g, i + 1, none⟩ 1 1 lb cb hne 4 4 vs.length (c * 1) (by have h := hvb; unfold Blk at h; simp [World.shape?, h]) (by have h := hg; unfold Blk at h; simp [World.shape?, h, hsz]) (by omega) (hvb.frozen 0) (hvb.frozen _)]
    rfl
  have hw1 : IntKind.i64.wrap ((i : Int) + 1) = (i : Int) + 1 := by rw [IntKind.wrap_i64]; omega
  have hik : (0 : Int) ≤ (i : Int) + 1 := by omega
  have hik2 : ((i : Int) + 1).toNat = i + 1 := by omega
  have hik3 : (i : Int) + 1 ≤ (n : Int) + 1 := by omega
  have hil3 : (i : Int) ≤ (n : Int) + 1 := by omega
  have hci : ¬ (c = i) := by omega
  have hci1 : ¬ (c = i + 1) := by omega
  have hsz1 : (Try.prog.info? 4).map (·.size) = some 1 := by rw [hi]; simp [hi1]
  have hlen1 : ((cur.toList.take (n)).drop (i)).length = n - (i) := by simp; omega
  have Hb := Lib.hid hg
  have HV := Lib.hid hvb
  have Hvs := Lib.hid hvs
  have H1 := Lib.hid h1
  have H1c := Lib.hid h1c
  have Hsz := Lib.hid hsz
  have Hl1 := Lib.hid hlen1
  clear hg hvb hvs h1 h1c hsz hlen1
  go_enter Try.func66, Try.ntmps66
  go_wp2_with (simp only [hov])
  refine region_tail 8 (by kernel_rfl) (by kernel_rfl) ?_
  simp only [List.take_succ_cons, List.take_zero, List.drop_succ_cons, List.drop_zero]
  repeat (go_big_quiet_step (fail))
  refine wpQuiet_nil ?_
  refine wpList_copy_blk rfl (.tmp 73) (.tmp 76) 53 rfl 4 4 1 g _ _ _ ⟨g, i, none⟩ _ _ cur ((cur.toList.take (n)).drop (i)) Try.underlying53 hsz1 rfl rfl Hb.out ?hn ?hsrc ?hfit (fun u hu => H1c.out u (List.mem_of_mem_drop hu)) ?_
  case hn => rw [Hl1.out, Nat.min_eq_right (by omega)]; omega
  case hsrc =>
    intro j u hu
    have hj : j < n - (i) := by have := (List.getElem?_eq_some_iff.1 hu).1; rw [Hl1.out] at this; exact this
    have h3 := World.news_of_block Hb.out (i + j) u (by rw [List.getElem?_drop, List.getElem?_take, if_pos (by omega)] at hu; exact hu)
    have e1 : (⟨g, i, none⟩ : Addr).add j = (⟨g, 0, none⟩ : Addr).add (i + j) := by simp only [Addr.add_lit]; congr 1; omega
    rw [e1]; exact h3
  case hfit => rw [Hl1.out, Hsz.out]; omega
  intro w2 hb2 hg2
  have hl2 : (spl cur.toList (i + 1) ((cur.toList.take (n)).drop (i))).length = c * 1 := by rw [spl_length _ _ _ (by rw [Hl1.out, Array.length_toList, Hsz.out]; omega), Array.length_toList, Hsz.out]
  have hvb2 : Blk w2 vb 4 vs.toArray := HV.out.kept (hg2.block vb HV.out.lt (fun e => hne (by injection e)))
  have hcp : ∀ ty, (Builtin.copy_ #[53, 53] ty #[.slice (some ⟨g, i, none⟩) (n + 1 - i) (c - i), .slice (some ⟨vb, 0, none⟩) 1 1]).run Try.prog w2 =
      .ok (goInt (1 : Nat)) (w2.setRow g (spl (spl cur.toList (i + 1) ((cur.toList.take (n)).drop (i))) (i) vs).toArray) := fun ty => by
    have h := run_copy_blk (P := Try.prog) w2 53 ty 4 4 1 g (i) (n + 1 - i) (c - i) ⟨vb, 0, none⟩ 1 1 _ vs Try.underlying53 hsz1 hb2 (by rw [Hvs.out, Nat.min_eq_left (by omega)])
      (fun j u hu => World.news_of_block (cs := vs.toArray) hvb2 j u (by simpa using hu)) (by rw [Hvs.out]; simp only [List.size_toArray]; omega) H1.out
    rw [Nat.min_eq_left (show 1 ≤ n + 1 - i by omega)] at h
    exact h
  have hb3 := hb2.setRow (spl (spl cur.toList (i + 1) ((cur.toList.take (n)).drop (i))) (i) vs).toArray
  have hg3 := grownBy_setRow w2 g (spl (spl cur.toList (i + 1) ((cur.toList.take (n)).drop (i))) (i) vs).toArray
  have hfin := spl_shift cur.toList vs (i) (n) 1 Hvs.out (by omega) (by rw [Array.length_toList, Hsz.out]; omega)
  rw [show i + 1 = i + 1 by omega] at hfin
  have hl3 := spl_length (spl cur.toList (i + 1) ((cur.toList.take (n)).drop (i))) (i) vs (by rw [hl2, Hvs.out]; omega)
  have hpost : Hid (InsP w 4 1 (some g) n ((cur.toList.take (n)).take (i) ++ vs ++ (cur.toList.take (n)).drop (i)) (.returned (.slice (some ⟨g, 0, none⟩) (n + 1) c)) (w2.setRow g (spl (spl cur.toList (i + 1) ((cur.toList.take (n)).drop (i))) (i) vs).toArray)) := by
    refine ⟨g, c, rfl, ⟨hg3.os.trans hg2.os, hg3.tape.trans hg2.tape, hg3.output.trans hg2.output, Nat.le_trans hg2.size hg3.size, fun k hk hkg => (hg3.block k (Nat.lt_of_lt_of_le hk hg2.size) hkg).trans (hg2.block k hk hkg)⟩, ⟨?_, .inr ⟨g, c, _, rfl, Nat.zero_le _, hb3, hroom, by unfold maxLen; omega, ?_, ?_⟩⟩, .inl rfl⟩
    · simp only [List.length_append, Hl1.out, List.length_take, Array.length_toList, Hsz.out, Hvs.out]; omega
    · simp only [List.size_toArray]
      exact hl3.trans hl2
    · simp only []
      rw [show (n + 1) * 1 = n + 1 by omega]
      exact hfin
  clear hb2 hg2 hb3 hg3 hfin hl2 hl3 hvb2 hov
  go_wp2
  go_ret
  exact hpost.out

set_option maxRecDepth 100000 in
theorem insB_c (v : Value) (n i vb : Nat) (xs vs : List Value) (w : World) (hown : w.ownsRow 0 4 1 v n xs) (hn : n ≤ 1000) (hin : i ≤ n) (hne : v.ownBlock ≠ some vb) (hvb : Blk w vb 4 vs.toArray) (hvs : vs.length = 1) (h1 : ∀ u ∈ vs, u.oneCell' = true) (h1c : ∀ u ∈ xs, u.oneCell' = true) :
    Calls Try.prog 66 #[v, .int .i64 i, .slice (some ⟨vb, 0, none⟩) 1 1] w (InsP w 4 1 v.ownBlock n (xs.take (i) ++ vs ++ xs.drop (i))) := by
  have hlen := hown.1
  by_cases hi : i = n
  · obtain rfl : n = i := hi.symm
    obtain ⟨A, c, rfl⟩ : ∃ A c, v = .slice A n c := by
      rcases hown.2 with ⟨hv, h0⟩ | ⟨g, cap, cur, hv, _, _⟩
      · exact ⟨none, 0, by rw [hv, h0]⟩
      · exact ⟨_, _, hv⟩
    rw [List.take_of_length_le (by omega), List.drop_of_length_le (by omega), List.append_nil, ownBlock_slice]
    exact insB_end A n c vb xs vs w hown hn hvb hvs h1
  · rcases hown.2 with ⟨hv, h0⟩ | ⟨g, cap, cur, hv, _, hg, hnc, hcap, hsz, htake⟩
    · omega
    · subst hv
      have hob : (Value.slice (some ⟨g, 0, none⟩) n cap).ownBlock = some g := rfl
      rw [hob] at hne ⊢
      have htake : cur.toList.take (n) = xs := htake ▸ (congrArg (fun k => cur.toList.take k) (show n = n * 1 by omega))
      by_cases hroom : n + 1 ≤ cap
      · rw [← htake]
        exact insB_shift g n cap i vb cur vs w hg hsz hn (by omega) hroom (by unfold maxLen at hcap; omega) (fun e => hne (by rw [e])) hvb hvs h1 (by rw [htake]; exact h1c)
      · obtain rfl : cap = n := by omega
        have hx : cur.toList = xs := by rw [← htake, List.take_of_length_le (by rw [Array.length_toList, hsz]; omega)]
        rw [← hx]
        exact insB_grow g cap i vb cur vs w hg (by omega) hn (by omega) hvb hvs h1 (by rw [hx]; exact h1c)
end Go.Proofs.Ytgmlhpkhecbkoaa
