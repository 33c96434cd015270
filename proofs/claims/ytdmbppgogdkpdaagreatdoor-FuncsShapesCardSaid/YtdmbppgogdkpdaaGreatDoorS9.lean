/-
  fmath.numbers: its contract. Condition: the row holds at most 4096 values; those that hold numbers may be.
  farray: COLUMNS, ROWS; fmath.fault: their contracts. Conditions: at most 4096 rows and columns, the table of powers of ten reads as laid.
  fmath.ofNumbers$1 (SUM), counted$1 (COUNT, COUNTA): their contracts. Conditions: the array may be, holds at most 4096 values; the table of powers of ten reads as laid.
  fmath.counted$1 (COUNT, COUNTA): its contract. Conditions: the array holds at least one and at most 4096 values; the table of powers of ten reads as laid.
-/
import Derived.Test.YtdmbppgogdkpdaaGreatDoorS5
set_option linter.unusedSectionVars false
namespace Go.Proofs.YtdmbppgogdkpdaaGreatDoor
open Go.RowKit
theorem Tryz.infoN : (Tryz.prog.info? 39).map (fun i => (i.zero, i.size, i.bytes)) = some (some (.agg #[.int .i64 0, .int .i64 0]), 2, 16) := by kernel_rfl
def badOf (l : List Val) : Option Val := l.find? fun v => v.kind == 4
def numsOf (l : List Val) : List (Int × Int) := (l.filter fun v => v.kind == 1).map fun v => (v.mant, v.exp)
theorem numsOf_le (l : List Val) : (numsOf l).length ≤ l.length := by
  unfold numsOf
  rw [List.length_map]
  exact List.length_filter_le _ _
theorem numsOf_snoc1 (l : List Val) (z : Val) (h : z.kind = 1) : numsOf (l ++ [z]) = numsOf l ++ [(z.mant, z.exp)] := by
  unfold numsOf
  rw [List.filter_append, List.map_append]
  simp [h]
theorem numsOf_snoc0 (l : List Val) (z : Val) (h : ¬ z.kind = 1) : numsOf (l ++ [z]) = numsOf l := by
  unfold numsOf
  rw [List.filter_append, List.map_append]
  simp [h]
theorem badOf_snoc0 (l : List Val) (z : Val) (h : ¬ z.kind = 4) (hl : badOf l = none) : badOf (l ++ [z]) = none := by
  unfold badOf at *
  rw [List.find?_append, hl]
  simp [h]
theorem badOf_hit (l : List Val) (j : Nat) (hj : j < l.length) (h : l[j].kind = 4) (hl : badOf (l.take j) = none) : badOf l = some l[j] := by
  have e : l = l.take j ++ l.drop j := (List.take_append_drop j l).symm
  have e2 : l.drop j = l[j] :: l.drop (j + 1) := List.drop_eq_getElem_cons hj
  have e3 : badOf l = (badOf (l.take j)).or (badOf (l.drop j)) := by
    unfold badOf
    rw [← List.find?_append, List.take_append_drop]
  rw [e3, hl, e2]
  show (List.find? _ _) = _
  rw [List.find?_cons]
  simp [h]
def NumsP (w : World) (l : List Val) (e : Ending) (w' : World) : Prop := Below w.heap.size w w' ∧
  ((∃ z, badOf l = some z ∧ e = .returned (.tuple #[.slice none 0 0, .int .i64 z.fault])) ∨
   (badOf l = none ∧ ∃ A c, e = .returned (.tuple #[.slice A (numsOf l).length c, .int .i64 0]) ∧ ManyR csN 2 w' A (numsOf l)))
set_option maxRecDepth 100000 in
set_option maxHeartbeats 4000000 in
theorem numbers_c (A : Option Addr) (n ca : Nat) (l : List Val) (w : World) (hA : ManyR Val.cs 6 w A l) (hn : l.length = n) (hm : n ≤ 4096) :
    Calls Tryz.prog 243 #[.slice A n ca] w (NumsP w l) := by
  obtain ⟨i0, hi, hz0, hz1, hz2⟩ := info_parts Tryz.infoN
  have HA := Lib.hid hA
  have HN := Lib.hid hn
  clear hA hn
  go_enter Tryz.func243, Tryz.ntmps243
  go_wp2_with fail
  go_loopw [4, 9] (fun v i wr => ∃ (j k : Nat) (ns : List (Int × Int)) (A' : Option Addr) (c' : Nat), j ≤ n ∧ i = .int .i64 j ∧ v = .slice A' k c' ∧ k ≤ j ∧ Hid (numsOf (l.take j) = ns ∧ ns.length = k) ∧ Hid (badOf (l.take j) = none) ∧ Hid (wr.ownsRow w.heap.size 39 2 (.slice A' k c') k (ns.flatMap csN)) ∧ Hid (Below w.heap.size w wr)) (fun _ i _ => n - (intOf i).toNat)
  case atStart => exact ⟨0, 0, [], none, 0, Nat.zero_le _, rfl, rfl, Nat.le_refl _, Lib.hid ⟨rfl, rfl⟩, Lib.hid rfl, Lib.hid (World.ownsRow_nil _ _ _ _), Lib.hid (Below.refl _ _)⟩
  case round =>
    obtain ⟨j, k, ns, A', c', hj, rfl, rfl, hk, hns, hbad, hrow, hb⟩ := hrel
    by_cases hlt : j < n
    · have hjl : j < l.length := by rw [HN.out]; exact hlt
      obtain ⟨bA, oA, rfl, lA, hcA⟩ := (HA.out.next hb.out) (fun e => by rw [e] at hjl; simp at hjl)
      have gv := hcA j hjl
      have htk := Lib.hid (show l.take (j + 1) = l.take j ++ [l[j]] from by rw [List.take_succ_eq_append_getElem hjl])
      have hhit := Lib.hid (fun h => badOf_hit l j hjl h hbad.out)
      clear hcA
      generalize l[j] = z at *
      obtain ⟨vk, m, ex, t, b, f⟩ := z
      have c0 := gv 0 _ rfl
      have c1 := gv 1 _ rfl
      have c2 := gv 2 _ rfl
      have c3 := gv 3 _ rfl
      have c4 := gv 4 _ rfl
      have c5 := gv 5 _ rfl
      rw [Nat.add_zero] at c0
      clear gv
      have hj0 : (0 : Int) ≤ (j : Int) := by omega
      have hjn : (j : Int) < (n : Int) := by omega
      have wj : IntKind.i64.wrap ((j : Int) + 1) = (j : Int) + 1 := IntWalk.i64_in _ (by omega)
      have BV := Lib.hid (Blk.new wr 41 #[.int .i64 vk, .int .i64 m, .int .i64 ex, .string t, .bool b, .int .i64 f])
      have bl : Below wr.heap.size wr (wr.alloc (.cells #[.int .i64 vk, .int .i64 m, .int .i64 ex, .string t, .bool b, .int .i64 f] 41)) := (Below.refl _ wr).alloc (Nat.le_refl _) _
      have HB1 := Lib.hid (hb.out.trans (bl.mono hb.out.size))
      have HR1 := Lib.hid (ownsRow_kept hrow.out (w' := wr.alloc (.cells #[.int .i64 vk, .int .i64 m, .int .i64 ex, .string t, .bool b, .int .i64 f] 41)) (fun g _ hg => bl.block g hg))
      have HLE := Lib.hid (show w.heap.size ≤ wr.heap.size from hb.out.size)
      clear bl hrow hb
      by_cases h4 : vk = 4
      · subst h4
        have HC : AllCells (wr.alloc (.cells #[.int .i64 4, .int .i64 m, .int .i64 ex, .string t, .bool b, .int .i64 f] 41)).drew [(⟨wr.heap.size, 5, none⟩, .int .i64 f)] := ⟨by
          have := (BV.out.kept (w' := (wr.alloc (.cells #[.int .i64 4, .int .i64 m, .int .i64 ex, .string t, .bool b, .int .i64 f] 41)).drew) rfl).cell 5
          simp, trivial⟩
        have HB2 := Lib.hid HB1.out.drew
        have HH := Lib.hid (hhit.out rfl)
        go_wp2_with fail
        refine region_free _ [0, 1, 2, 3] 0 (by kernel_rfl) (by kernel_rfl) (by kernel_rfl) (by kernel_rfl) (by kernel_rfl) (fun _ _ _ _ _ h => h) HC ?_
        intro hne hu
        simp only [AllCells] at hu
        simp only [pick, List.take_succ_cons, List.take_zero, List.drop_succ_cons, List.drop_zero, List.cons_append, List.nil_append]
        repeat (go_big_quiet_step (fail))
        refine wpQuiet_nil ?_
        clear hne hu
        refine ⟨by kernel_rfl, ?_⟩
        clear HC
        go_wp2_with fail
        exact bodyPost_ret (v := .tuple #[.slice none 0 0, .int .i64 f]) (by simp [results, Tryz.f243, go_sem]) rfl ⟨HB2.out, .inl ⟨_, HH.out, rfl⟩⟩
      · have b4 : (vk == 4) = false := by simp [h4]
        by_cases h1 : vk = 1
        · subst h1
          have HNS := Lib.hid (show numsOf (l.take (j + 1)) = ns ++ [(m, ex)] ∧ (ns ++ [(m, ex)]).length = k + 1 by
            refine ⟨?_, by rw [List.length_append, hns.out.2]; rfl⟩
            rw [htk.out, numsOf_snoc1 _ _ rfl, hns.out.1])
          have HBD := Lib.hid (show badOf (l.take (j + 1)) = none by rw [htk.out]; exact badOf_snoc0 _ _ h4 hbad.out)
          have bl2 : Below (wr.alloc (.cells #[.int .i64 1, .int .i64 m, .int .i64 ex, .string t, .bool b, .int .i64 f] 41)).heap.size _ ((wr.alloc (.cells #[.int .i64 1, .int .i64 m, .int .i64 ex, .string t, .bool b, .int .i64 f] 41)).alloc (.cells #[.int .i64 m, .int .i64 ex] 39)) := (Below.refl _ _).alloc (Nat.le_refl _) _
          have HB2 := Lib.hid (HB1.out.trans (bl2.mono HB1.out.size))
          have HR2 := Lib.hid (ownsRow_kept HR1.out (w' := (wr.alloc (.cells #[.int .i64 1, .int .i64 m, .int .i64 ex, .string t, .bool b, .int .i64 f] 41)).alloc (.cells #[.int .i64 m, .int .i64 ex] 39)) (fun g _ hg => bl2.block g hg))
          have HSrc : Hid (∀ ad, some (⟨wr.heap.size + 1, 0, none⟩ : Addr) = some ad → ∀ j u, [Value.int .i64 m, .int .i64 ex][j]? = some u → ((wr.alloc (.cells #[.int .i64 1, .int .i64 m, .int .i64 ex, .string t, .bool b, .int .i64 f] 41)).alloc (.cells #[.int .i64 m, .int .i64 ex] 39)).cell? (ad.add j) = some u) := fun ad hE j u hj => by
            cases hE
            have := (Blk.new (wr.alloc (.cells #[.int .i64 1, .int .i64 m, .int .i64 ex, .string t, .bool b, .int .i64 f] 41)) 39 #[.int .i64 m, .int .i64 ex]).cell j
            rw [show (wr.alloc (.cells #[.int .i64 1, .int .i64 m, .int .i64 ex, .string t, .bool b, .int .i64 f] 41)).heap.size = wr.heap.size + 1 by simp] at this
            rw [add_at, Nat.zero_add]
            refine this.trans ?_
            simpa using hj
          have HBase := Lib.hid (ownsRow_base HR2.out)
          clear bl2 hhit htk hns hbad HR1 HB1
          go_wp2_with (at_builtin; refine wpList_append_src _ rfl _ _ _ rfl w.heap.size 39 i0 _ 2 16 Tryz.underlying163 hi hz0 hz1 hz2 rfl (by omega) _ k (ns.flatMap csN) rfl HR2.out (some ⟨wr.heap.size + 1, 0, none⟩) 1 1 [.int .i64 m, .int .i64 ex] (by first | rfl | simp [go_sem]) (fun e => by cases e) rfl HSrc.out (by simp [Value.oneCell']) (by simp only [maxLen]; omega) (by omega) HB2.out.size ?_; intro v2 w3 hr6 hg6 hat6)
          have HR3 := Lib.hid (show w3.ownsRow w.heap.size 39 2 v2 (k + 1) ((ns ++ [(m, ex)]).flatMap csN) by rw [List.flatMap_append]; exact hr6)
          have HB3 := Lib.hid (below_grew HB2.out hg6 (fun g hg => HBase.out g hg))
          clear hr6 hg6 hat6
          obtain ⟨A2, c2, rfl, hAc⟩ := ownsRow_shape HR3.out
          clear hAc
          go_wp2_with fail
          go_roundw
          case rel => exact ⟨j + 1, k + 1, _, _, _, hlt, by go_num, rfl, by omega, HNS, HBD, HR3, HB3⟩
          case measure => simp [intOf]; omega
        · have b1 : (vk == 1) = false := by simp [h1]
          have HNS := Lib.hid (show numsOf (l.take (j + 1)) = ns ∧ ns.length = k by
            refine ⟨?_, hns.out.2⟩
            rw [htk.out, numsOf_snoc0 _ _ h1, hns.out.1])
          have HBD := Lib.hid (show badOf (l.take (j + 1)) = none by rw [htk.out]; exact badOf_snoc0 _ _ h4 hbad.out)
          clear hhit htk hns hbad h1 h4
          go_wp2_with fail
          go_roundw
          case rel => exact ⟨j + 1, k, _, _, _, hlt, by go_num, rfl, by omega, HNS, HBD, HR1, HB1⟩
          case measure => simp [intOf]; omega
    · obtain rfl : j = n := by omega
      have hjj : decide ((j : Int) < (j : Int)) = false := decide_eq_false (by omega)
      have HE := Lib.hid (show l.take j = l from List.take_of_length_le (by rw [HN.out]; exact Nat.le_refl _))
      go_wp2_with fail
      have HF := manyR_of_row (f := csN) (k := 2) (fun _ => rfl) (by omega) hrow.out
      have h1 := hns.out.1
      have h2 := hbad.out
      rw [HE.out] at h1 h2
      subst h1
      exact bodyPost_ret (v := .tuple #[.slice A' k c', .int .i64 0]) (by simp [results, Tryz.f243, go_sem]) rfl ⟨hb.out, .inr ⟨h2, A', c', by rw [hns.out.2], HF.2⟩⟩
end Go.Proofs.YtdmbppgogdkpdaaGreatDoor
namespace Go.Proofs.YtdmbppgogdkpdaaGreatDoor
open Go.RowKit
set_option maxRecDepth 100000 in
set_option maxHeartbeats 4000000 in
theorem columns_c (bG : Nat) (r : Int) (c : Nat) (A : Option Addr) (n ca cG : Nat) (w : World) (hG : Blk w bG 28 #[.int .i64 r, .int .i64 c, .slice A n ca]) (hc : c ≤ 4096) (htab : PowT w) :
    Calls Tryz.prog 202 #[.slice (some ⟨bG, 0, none⟩) 1 cG] w (RetA w 1 1 [countV c]) := by
  have HB := Lib.hid ((Below.refl _ w).alloc (Nat.le_refl _) (.cells #[.int .i64 0, .int .i64 0, .slice none 0 0] 28))
  have BX := Lib.hid (Blk.new w 28 #[.int .i64 0, .int .i64 0, .slice none 0 0])
  have BG := Lib.hid (hG.alloc (.cells #[.int .i64 0, .int .i64 0, .slice none 0 0] 28))
  have HC0 := acount_c c (by omega) (w.alloc (.cells #[.int .i64 0, .int .i64 0, .slice none 0 0] 28)) (htab.next HB.out)
  have HO0 := fun W => one_c (countV c) (countV_right c) (countV_fits c) W
  generalize countV c = z at HC0 HO0 ⊢
  obtain ⟨zk, zm, ze, zt, zb, zf⟩ := z
  have HC := Lib.hid (show Calls Tryz.prog 203 #[.int .i64 c] (w.alloc (.cells #[.int .i64 0, .int .i64 0, .slice none 0 0] 28)) (fun x w' => x = .returned (.agg #[.int .i64 zk, .int .i64 zm, .int .i64 ze, .string zt, .bool zb, .int .i64 zf]) ∧ Below (w.alloc (.cells #[.int .i64 0, .int .i64 0, .slice none 0 0] 28)).heap.size _ w') from HC0)
  have HO := Lib.hid (fun W => show Calls Tryz.prog 127 #[.agg #[.int .i64 zk, .int .i64 zm, .int .i64 ze, .string zt, .bool zb, .int .i64 zf]] W (RetA W 1 1 [⟨zk, zm, ze, zt, zb, zf⟩]) from HO0 W)
  clear HC0 HO0 htab hG
  have g0 := BG.out.cell 0
  have g1 := BG.out.cell 1
  have g2 := BG.out.cell 2
  simp only [List.getElem?_toArray, List.getElem?_cons_zero, List.getElem?_cons_succ] at g0 g1 g2
  go_enter Tryz.func202, Tryz.ntmps202
  go_wp2_with fail
  refine HC.out.mono ?_
  rintro x w1 ⟨rfl, B1⟩
  have BX1 := Lib.hid (BX.out.kept (B1.block _ BX.out.lt))
  have HB1 := Lib.hid (HB.out.trans (B1.mono HB.out.size))
  clear B1 BX HB HC BG g0 g1 g2
  go_wp2_with fail
  refine (HO.out _).mono ?_
  rintro y w9 ⟨A9, n9, ca9, rfl, hn9, hA9, hF9, B9⟩
  have BX2 := Lib.hid (BX1.out.kept (B9.block _ BX1.out.lt))
  have HB2 := Lib.hid (HB1.out.trans (B9.mono HB1.out.size))
  have HN9 := Lib.hid hn9
  have HF9 := Lib.hid (show ∀ a, A9 = some a → w.heap.size < a.block from fun a e => Nat.lt_of_lt_of_le BX1.out.lt (hF9 a e))
  have HA9 := Lib.hid (manyR_put3 hA9 (X := w.heap.size) (fun a e => by have := HF9.out a e; omega) (.int .i64 1) (.int .i64 1) (.slice A9 n9 ca9))
  clear B9 hn9 hA9 hF9 BX1 HB1
  have e0 := BX2.out.cell 0
  have e1 := BX2.out.cell 1
  have e2 := BX2.out.cell 2
  simp only [List.getElem?_toArray, List.getElem?_cons_zero, List.getElem?_cons_succ] at e0 e1 e2
  have f0 := BX2.out.frozen 0
  have f1 := BX2.out.frozen 1
  have f2 := BX2.out.frozen 2
  have lX := BX2.out.lt
  go_wp2_with fail
  change bodyPost _ _ _ _ _ (put3 w9 w.heap.size (.int .i64 1) (.int .i64 1) (.slice A9 n9 ca9))
  have bX2 := Lib.hid (blk_put3 BX2.out (.int .i64 1) (.int .i64 1) (.slice A9 n9 ca9))
  have HB3 := below_put3 HB2.out (Nat.le_refl _) (.int .i64 1) (.int .i64 1) (.slice A9 n9 ca9)
  generalize put3 w9 w.heap.size (.int .i64 1) (.int .i64 1) (.slice A9 n9 ca9) = W2 at *
  have d0 := bX2.out.cell 0
  have d1 := bX2.out.cell 1
  have d2 := bX2.out.cell 2
  simp only [List.getElem?_toArray, List.getElem?_cons_zero, List.getElem?_cons_succ] at d0 d1 d2
  exact bodyPost_ret (v := .agg #[(.int .i64 1), (.int .i64 1), .slice A9 n9 ca9]) (by simp [results, Tryz.f202, go_sem, d0, d1, d2]) rfl ⟨_, _, _, rfl, HN9.out, HA9.out, fun a e => Nat.le_of_lt (HF9.out a e), HB3⟩
set_option maxRecDepth 100000 in
set_option maxHeartbeats 4000000 in
theorem rows_c (bG : Nat) (r : Nat) (c : Int) (A : Option Addr) (n ca cG : Nat) (w : World) (hG : Blk w bG 28 #[.int .i64 r, .int .i64 c, .slice A n ca]) (hc : r ≤ 4096) (htab : PowT w) :
    Calls Tryz.prog 209 #[.slice (some ⟨bG, 0, none⟩) 1 cG] w (RetA w 1 1 [countV r]) := by
  have HB := Lib.hid ((Below.refl _ w).alloc (Nat.le_refl _) (.cells #[.int .i64 0, .int .i64 0, .slice none 0 0] 28))
  have BX := Lib.hid (Blk.new w 28 #[.int .i64 0, .int .i64 0, .slice none 0 0])
  have BG := Lib.hid (hG.alloc (.cells #[.int .i64 0, .int .i64 0, .slice none 0 0] 28))
  have HC0 := acount_c r (by omega) (w.alloc (.cells #[.int .i64 0, .int .i64 0, .slice none 0 0] 28)) (htab.next HB.out)
  have HO0 := fun W => one_c (countV r) (countV_right r) (countV_fits r) W
  generalize countV r = z at HC0 HO0 ⊢
  obtain ⟨zk, zm, ze, zt, zb, zf⟩ := z
  have HC := Lib.hid (show Calls Tryz.prog 203 #[.int .i64 r] (w.alloc (.cells #[.int .i64 0, .int .i64 0, .slice none 0 0] 28)) (fun x w' => x = .returned (.agg #[.int .i64 zk, .int .i64 zm, .int .i64 ze, .string zt, .bool zb, .int .i64 zf]) ∧ Below (w.alloc (.cells #[.int .i64 0, .int .i64 0, .slice none 0 0] 28)).heap.size _ w') from HC0)
  have HO := Lib.hid (fun W => show Calls Tryz.prog 127 #[.agg #[.int .i64 zk, .int .i64 zm, .int .i64 ze, .string zt, .bool zb, .int .i64 zf]] W (RetA W 1 1 [⟨zk, zm, ze, zt, zb, zf⟩]) from HO0 W)
  clear HC0 HO0 htab hG
  have g0 := BG.out.cell 0
  have g1 := BG.out.cell 1
  have g2 := BG.out.cell 2
  simp only [List.getElem?_toArray, List.getElem?_cons_zero, List.getElem?_cons_succ] at g0 g1 g2
  go_enter Tryz.func209, Tryz.ntmps209
  go_wp2_with fail
  refine HC.out.mono ?_
  rintro x w1 ⟨rfl, B1⟩
  have BX1 := Lib.hid (BX.out.kept (B1.block _ BX.out.lt))
  have HB1 := Lib.hid (HB.out.trans (B1.mono HB.out.size))
  clear B1 BX HB HC BG g0 g1 g2
  go_wp2_with fail
  refine (HO.out _).mono ?_
  rintro y w9 ⟨A9, n9, ca9, rfl, hn9, hA9, hF9, B9⟩
  have BX2 := Lib.hid (BX1.out.kept (B9.block _ BX1.out.lt))
  have HB2 := Lib.hid (HB1.out.trans (B9.mono HB1.out.size))
  have HN9 := Lib.hid hn9
  have HF9 := Lib.hid (show ∀ a, A9 = some a → w.heap.size < a.block from fun a e => Nat.lt_of_lt_of_le BX1.out.lt (hF9 a e))
  have HA9 := Lib.hid (manyR_put3 hA9 (X := w.heap.size) (fun a e => by have := HF9.out a e; omega) (.int .i64 1) (.int .i64 1) (.slice A9 n9 ca9))
  clear B9 hn9 hA9 hF9 BX1 HB1
  have e0 := BX2.out.cell 0
  have e1 := BX2.out.cell 1
  have e2 := BX2.out.cell 2
  simp only [List.getElem?_toArray, List.getElem?_cons_zero, List.getElem?_cons_succ] at e0 e1 e2
  have f0 := BX2.out.frozen 0
  have f1 := BX2.out.frozen 1
  have f2 := BX2.out.frozen 2
  have lX := BX2.out.lt
  go_wp2_with fail
  change bodyPost _ _ _ _ _ (put3 w9 w.heap.size (.int .i64 1) (.int .i64 1) (.slice A9 n9 ca9))
  have bX2 := Lib.hid (blk_put3 BX2.out (.int .i64 1) (.int .i64 1) (.slice A9 n9 ca9))
  have HB3 := below_put3 HB2.out (Nat.le_refl _) (.int .i64 1) (.int .i64 1) (.slice A9 n9 ca9)
  generalize put3 w9 w.heap.size (.int .i64 1) (.int .i64 1) (.slice A9 n9 ca9) = W2 at *
  have d0 := bX2.out.cell 0
  have d1 := bX2.out.cell 1
  have d2 := bX2.out.cell 2
  simp only [List.getElem?_toArray, List.getElem?_cons_zero, List.getElem?_cons_succ] at d0 d1 d2
  exact bodyPost_ret (v := .agg #[(.int .i64 1), (.int .i64 1), .slice A9 n9 ca9]) (by simp [results, Tryz.f209, go_sem, d0, d1, d2]) rfl ⟨_, _, _, rfl, HN9.out, HA9.out, fun a e => Nat.le_of_lt (HF9.out a e), HB3⟩
set_option maxRecDepth 100000 in
set_option maxHeartbeats 4000000 in
theorem fault_c (f : Int) (w : World) : Calls Tryz.prog 87 #[.int .i64 f] w (RetA w 1 1 [badV f]) := by
  have HB := Lib.hid ((Below.refl _ w).alloc (Nat.le_refl _) (.cells #[.int .i64 0, .int .i64 0, .slice none 0 0] 28))
  have BX := Lib.hid (Blk.new w 28 #[.int .i64 0, .int .i64 0, .slice none 0 0])
  have HC0 := vbad_c f (w.alloc (.cells #[.int .i64 0, .int .i64 0, .slice none 0 0] 28))
  have HO0 := fun W => one_c (badV f) (rightV_bad f) (by unfold FitsV badV; simp) W
  generalize badV f = z at HC0 HO0 ⊢
  obtain ⟨zk, zm, ze, zt, zb, zf⟩ := z
  have HC := Lib.hid (show Calls Tryz.prog 82 #[.int .i64 f] (w.alloc (.cells #[.int .i64 0, .int .i64 0, .slice none 0 0] 28)) (fun x w' => x = .returned (.agg #[.int .i64 zk, .int .i64 zm, .int .i64 ze, .string zt, .bool zb, .int .i64 zf]) ∧ Below (w.alloc (.cells #[.int .i64 0, .int .i64 0, .slice none 0 0] 28)).heap.size _ w') from HC0)
  have HO := Lib.hid (fun W => show Calls Tryz.prog 127 #[.agg #[.int .i64 zk, .int .i64 zm, .int .i64 ze, .string zt, .bool zb, .int .i64 zf]] W (RetA W 1 1 [⟨zk, zm, ze, zt, zb, zf⟩]) from HO0 W)
  clear HC0 HO0
  go_enter Tryz.func87, Tryz.ntmps87
  go_wp2_with fail
  refine HC.out.mono ?_
  rintro x w1 ⟨rfl, B1⟩
  have BX1 := Lib.hid (BX.out.kept (B1.block _ BX.out.lt))
  have HB1 := Lib.hid (HB.out.trans (B1.mono HB.out.size))
  clear B1 BX HB HC
  go_wp2_with fail
  refine (HO.out _).mono ?_
  rintro y w9 ⟨A9, n9, ca9, rfl, hn9, hA9, hF9, B9⟩
  have BX2 := Lib.hid (BX1.out.kept (B9.block _ BX1.out.lt))
  have HB2 := Lib.hid (HB1.out.trans (B9.mono HB1.out.size))
  have HN9 := Lib.hid hn9
  have HF9 := Lib.hid (show ∀ a, A9 = some a → w.heap.size < a.block from fun a e => Nat.lt_of_lt_of_le BX1.out.lt (hF9 a e))
  have HA9 := Lib.hid (manyR_put3 hA9 (X := w.heap.size) (fun a e => by have := HF9.out a e; omega) (.int .i64 1) (.int .i64 1) (.slice A9 n9 ca9))
  clear B9 hn9 hA9 hF9 BX1 HB1
  have e0 := BX2.out.cell 0
  have e1 := BX2.out.cell 1
  have e2 := BX2.out.cell 2
  simp only [List.getElem?_toArray, List.getElem?_cons_zero, List.getElem?_cons_succ] at e0 e1 e2
  have f0 := BX2.out.frozen 0
  have f1 := BX2.out.frozen 1
  have f2 := BX2.out.frozen 2
  have lX := BX2.out.lt
  go_wp2_with fail
  change bodyPost _ _ _ _ _ (put3 w9 w.heap.size (.int .i64 1) (.int .i64 1) (.slice A9 n9 ca9))
  have bX2 := Lib.hid (blk_put3 BX2.out (.int .i64 1) (.int .i64 1) (.slice A9 n9 ca9))
  have HB3 := below_put3 HB2.out (Nat.le_refl _) (.int .i64 1) (.int .i64 1) (.slice A9 n9 ca9)
  generalize put3 w9 w.heap.size (.int .i64 1) (.int .i64 1) (.slice A9 n9 ca9) = W2 at *
  have d0 := bX2.out.cell 0
  have d1 := bX2.out.cell 1
  have d2 := bX2.out.cell 2
  simp only [List.getElem?_toArray, List.getElem?_cons_zero, List.getElem?_cons_succ] at d0 d1 d2
  exact bodyPost_ret (v := .agg #[(.int .i64 1), (.int .i64 1), .slice A9 n9 ca9]) (by simp [results, Tryz.f87, go_sem, d0, d1, d2]) rfl ⟨_, _, _, rfl, HN9.out, HA9.out, fun a e => Nat.le_of_lt (HF9.out a e), HB3⟩
end Go.Proofs.YtdmbppgogdkpdaaGreatDoor
namespace Go.Proofs.YtdmbppgogdkpdaaGreatDoor
open Go.RowKit
def FnBox (w : World) (bS : Nat) (f : FuncId) : Prop := w.cell? ⟨bS, 0, none⟩ = some (.func (.func f) #[] #[]) ∧ bS < w.heap.size
theorem FnBox.next {w w' : World} {bS : Nat} {f : FuncId} (h : FnBox w bS f) (hb : Below w.heap.size w w') : FnBox w' bS f := ⟨(hb.cell (p := ⟨bS, 0, none⟩) h.2).trans h.1, Nat.lt_of_lt_of_le h.2 hb.size⟩
noncomputable def sumA (l : List Val) : Val := match badOf l with
  | some z => badV z.fault
  | none => sumV (numsOf l)
theorem sumA_right (l : List Val) : RightV (sumA l) := by
  unfold sumA
  split
  · exact rightV_bad _
  · exact sumV_right _
theorem badV_fits (f : Int) : FitsV (badV f) := by unfold FitsV badV; simp
theorem sumA_fits (l : List Val) : FitsV (sumA l) := by
  unfold sumA
  split
  · exact badV_fits _
  · exact sumV_fits _
theorem badOf_fault {l : List Val} {z : Val} (h : badOf l = some z) (hr : ∀ v ∈ l, RightV v) : 1 ≤ z.fault ∧ z.fault ≤ 9 := by
  have h1 := List.mem_of_find?_eq_some h
  have h2 := List.find?_some h
  have h3 := hr z h1
  obtain ⟨k, m, e, t, b, f⟩ := z
  obtain rfl : k = 4 := by simpa using h2
  have := rightV4.1 h3
  exact this.2.2.2.2
theorem numsOf_right {l : List Val} (hr : ∀ v ∈ l, RightV v) : ∀ p ∈ numsOf l, RightN p.1 p.2 := fun p hp => by
  unfold numsOf at hp
  obtain ⟨z, hz, rfl⟩ := List.mem_map.1 hp
  have h1 := List.mem_filter.1 hz
  have h3 := hr z h1.1
  obtain ⟨k, m, e, t, b, f⟩ := z
  obtain rfl : k = 1 := by simpa using h1.2
  exact (rightV1.1 h3).1
set_option maxRecDepth 100000 in
set_option maxHeartbeats 4000000 in
theorem sumfn_c (bG bS : Nat) (r c : Int) (A : Option Addr) (n ca cG : Nat) (l : List Val) (w : World) (hG : Blk w bG 28 #[.int .i64 r, .int .i64 c, .slice A n ca]) (hS : FnBox w bS 141) (hA : ManyR Val.cs 6 w A l) (hn : l.length = n) (hm : n ≤ 4096) (hl : l ≠ []) (hr : ∀ v ∈ l, RightV v) (htab : PowT w) :
    Calls Tryz.prog 242 #[.slice (some ⟨bG, 0, none⟩) 1 cG, .pointer (some ⟨bS, 0, none⟩)] w (RetA w 1 1 [sumA l]) := by
  have HB := Lib.hid ((Below.refl _ w).alloc (Nat.le_refl _) (.cells #[.int .i64 0, .int .i64 0, .slice none 0 0] 28))
  have BX := Lib.hid (Blk.new w 28 #[.int .i64 0, .int .i64 0, .slice none 0 0])
  have HAL := Lib.hid (all_c bG r c A n ca cG l (w.alloc (.cells #[.int .i64 0, .int .i64 0, .slice none 0 0] 28)) (hG.alloc _) (hA.next HB.out) hn hm hl)
  have HN := Lib.hid (show l.length ≤ 4096 by omega)
  have HR := Lib.hid hr
  have HT := Lib.hid htab
  have HS := Lib.hid hS
  clear hG hA hn hl hr htab hS
  go_enter Tryz.func242, Tryz.ntmps242
  go_wp2_with fail
  refine HAL.out.mono ?_
  rintro x w1 ⟨A1, c1, rfl, hA1, B1⟩
  have BX1 := Lib.hid (BX.out.kept (B1.block _ BX.out.lt))
  have HB1 := Lib.hid (HB.out.trans (B1.mono HB.out.size))
  have HNB := Lib.hid (numbers_c A1 l.length c1 l w1 hA1 rfl HN.out)
  clear B1 BX HB HAL hA1
  go_wp2_with fail
  refine HNB.out.mono ?_
  rintro x w2 ⟨B1, ⟨z, hz, rfl⟩ | ⟨hz, A2, c2, rfl, hA2⟩⟩
  · have BX2 := Lib.hid (BX1.out.kept (B1.block _ BX1.out.lt))
    have HB2 := Lib.hid (HB1.out.trans (B1.mono HB1.out.size))
    have hf := badOf_fault hz HR.out
    have HEQ := Lib.hid (show sumA l = badV z.fault by unfold sumA; rw [hz])
    have hne : (z.fault != 0) = true := by rw [bne_iff_ne]; omega
    have HF := Lib.hid (fun W => fault_c z.fault W)
    generalize z.fault = f at *
    clear B1 BX1 HB1 HNB hz hf
    go_wp2_with fail
    refine (HF.out _).mono ?_
    rintro y w9 ⟨A9, n9, ca9, rfl, hn9, hA9, hF9, B9⟩
    have BXt := Lib.hid (BX2.out.kept (B9.block _ BX2.out.lt))
    have HBt := Lib.hid (HB2.out.trans (B9.mono HB2.out.size))
    have HN9 := Lib.hid hn9
    have HF9 := Lib.hid (show ∀ a, A9 = some a → w.heap.size < a.block from fun a e => Nat.lt_of_lt_of_le BX2.out.lt (hF9 a e))
    have HA9 := Lib.hid (manyR_put3 hA9 (X := w.heap.size) (fun a e => by have := HF9.out a e; omega) (.int .i64 1) (.int .i64 1) (.slice A9 n9 ca9))
    clear B9 hn9 hA9 hF9 BX2 HB2
    have e0 := BXt.out.cell 0
    have e1 := BXt.out.cell 1
    have e2 := BXt.out.cell 2
    simp only [List.getElem?_toArray, List.getElem?_cons_zero, List.getElem?_cons_succ] at e0 e1 e2
    have f0 := BXt.out.frozen 0
    have f1 := BXt.out.frozen 1
    have f2 := BXt.out.frozen 2
    have lX := BXt.out.lt
    go_wp2_with fail
    change bodyPost _ _ _ _ _ (put3 w9 w.heap.size (.int .i64 1) (.int .i64 1) (.slice A9 n9 ca9))
    have bXt := Lib.hid (blk_put3 BXt.out (.int .i64 1) (.int .i64 1) (.slice A9 n9 ca9))
    have HBu := below_put3 HBt.out (Nat.le_refl _) (.int .i64 1) (.int .i64 1) (.slice A9 n9 ca9)
    generalize put3 w9 w.heap.size (.int .i64 1) (.int .i64 1) (.slice A9 n9 ca9) = W2 at *
    have d0 := bXt.out.cell 0
    have d1 := bXt.out.cell 1
    have d2 := bXt.out.cell 2
    simp only [List.getElem?_toArray, List.getElem?_cons_zero, List.getElem?_cons_succ] at d0 d1 d2
    exact bodyPost_ret (v := .agg #[(.int .i64 1), (.int .i64 1), .slice A9 n9 ca9]) (by simp [results, Tryz.f242, go_sem, d0, d1, d2]) rfl ⟨_, _, _, rfl, HN9.out, (by first | exact HA9.out | (rw [HEQ.out]; exact HA9.out)), fun a e => Nat.le_of_lt (HF9.out a e), HBu⟩
  · have BX2 := Lib.hid (BX1.out.kept (B1.block _ BX1.out.lt))
    have HB2 := Lib.hid (HB1.out.trans (B1.mono HB1.out.size))
    have s0 := (HS.out.next HB2.out).1
    have HSU0 := fsum_c A2 (numsOf l).length c2 (numsOf l) w2 hA2 rfl (Nat.le_trans (numsOf_le l) HN.out) (numsOf_right HR.out) (HT.out.next HB2.out)
    have HE := (show sumA l = sumV (numsOf l) by unfold sumA; rw [hz])
    have HO0 := fun W => one_c (sumV (numsOf l)) (sumV_right _) (sumV_fits _) W
    generalize sumV (numsOf l) = z at HSU0 HO0 HE
    obtain ⟨zk, zm, ze, zt, zb, zf⟩ := z
    have HEQ := Lib.hid HE
    have HSU := Lib.hid (show Calls Tryz.prog 141 #[.slice A2 (numsOf l).length c2] w2 (fun x w' => x = .returned (.agg #[.int .i64 zk, .int .i64 zm, .int .i64 ze, .string zt, .bool zb, .int .i64 zf]) ∧ Below w2.heap.size _ w') from HSU0)
    have HO := Lib.hid (fun W => show Calls Tryz.prog 127 #[.agg #[.int .i64 zk, .int .i64 zm, .int .i64 ze, .string zt, .bool zb, .int .i64 zf]] W (RetA W 1 1 [⟨zk, zm, ze, zt, zb, zf⟩]) from HO0 W)
    clear B1 BX1 HB1 HNB hz HE HSU0 HO0 hA2
    go_wp2_with fail
    refine HSU.out.mono ?_
    rintro x w3 ⟨rfl, B1⟩
    have BX3 := Lib.hid (BX2.out.kept (B1.block _ BX2.out.lt))
    have HB3 := Lib.hid (HB2.out.trans (B1.mono HB2.out.size))
    clear B1 BX2 HB2 s0
    go_wp2_with fail
    refine (HO.out _).mono ?_
    rintro y w9 ⟨A9, n9, ca9, rfl, hn9, hA9, hF9, B9⟩
    have BXt := Lib.hid (BX3.out.kept (B9.block _ BX3.out.lt))
    have HBt := Lib.hid (HB3.out.trans (B9.mono HB3.out.size))
    have HN9 := Lib.hid hn9
    have HF9 := Lib.hid (show ∀ a, A9 = some a → w.heap.size < a.block from fun a e => Nat.lt_of_lt_of_le BX3.out.lt (hF9 a e))
    have HA9 := Lib.hid (manyR_put3 hA9 (X := w.heap.size) (fun a e => by have := HF9.out a e; omega) (.int .i64 1) (.int .i64 1) (.slice A9 n9 ca9))
    clear B9 hn9 hA9 hF9 BX3 HB3
    have e0 := BXt.out.cell 0
    have e1 := BXt.out.cell 1
    have e2 := BXt.out.cell 2
    simp only [List.getElem?_toArray, List.getElem?_cons_zero, List.getElem?_cons_succ] at e0 e1 e2
    have f0 := BXt.out.frozen 0
    have f1 := BXt.out.frozen 1
    have f2 := BXt.out.frozen 2
    have lX := BXt.out.lt
    go_wp2_with fail
    change bodyPost _ _ _ _ _ (put3 w9 w.heap.size (.int .i64 1) (.int .i64 1) (.slice A9 n9 ca9))
    have bXt := Lib.hid (blk_put3 BXt.out (.int .i64 1) (.int .i64 1) (.slice A9 n9 ca9))
    have HBu := below_put3 HBt.out (Nat.le_refl _) (.int .i64 1) (.int .i64 1) (.slice A9 n9 ca9)
    generalize put3 w9 w.heap.size (.int .i64 1) (.int .i64 1) (.slice A9 n9 ca9) = W2 at *
    have d0 := bXt.out.cell 0
    have d1 := bXt.out.cell 1
    have d2 := bXt.out.cell 2
    simp only [List.getElem?_toArray, List.getElem?_cons_zero, List.getElem?_cons_succ] at d0 d1 d2
    exact bodyPost_ret (v := .agg #[(.int .i64 1), (.int .i64 1), .slice A9 n9 ca9]) (by simp [results, Tryz.f242, go_sem, d0, d1, d2]) rfl ⟨_, _, _, rfl, HN9.out, (by first | exact HA9.out | (rw [HEQ.out]; exact HA9.out)), fun a e => Nat.le_of_lt (HF9.out a e), HBu⟩
end Go.Proofs.YtdmbppgogdkpdaaGreatDoor
namespace Go.Proofs.YtdmbppgogdkpdaaGreatDoor
open Go.RowKit
set_option maxRecDepth 100000 in
set_option maxHeartbeats 4000000 in
theorem isnum_c (k m e : Int) (t : ByteArray) (b : Bool) (f : Int) (w : World) : Calls Tryz.prog 147 #[.agg #[.int .i64 k, .int .i64 m, .int .i64 e, .string t, .bool b, .int .i64 f]] w fun x w' => x = .returned (.bool (k == 1)) ∧ Below w.heap.size w w' := by
  have HB := Lib.hid ((Below.refl _ w).alloc (Nat.le_refl _) (.cells #[.int .i64 k, .int .i64 m, .int .i64 e, .string t, .bool b, .int .i64 f] 41))
  go_enter Tryz.func147, Tryz.ntmps147
  go_wp2_with fail
  go_ret
  exact ⟨rfl, HB.out⟩
set_option maxRecDepth 100000 in
set_option maxHeartbeats 4000000 in
theorem isany_c (k m e : Int) (t : ByteArray) (b : Bool) (f : Int) (w : World) : Calls Tryz.prog 148 #[.agg #[.int .i64 k, .int .i64 m, .int .i64 e, .string t, .bool b, .int .i64 f]] w fun x w' => x = .returned (.bool (k != 0)) ∧ Below w.heap.size w w' := by
  have HB := Lib.hid ((Below.refl _ w).alloc (Nat.le_refl _) (.cells #[.int .i64 k, .int .i64 m, .int .i64 e, .string t, .bool b, .int .i64 f] 41))
  go_enter Tryz.func148, Tryz.ntmps148
  go_wp2_with fail
  go_ret
  exact ⟨rfl, HB.out⟩
def isNum (z : Val) : Bool := z.kind == 1
def isAny (z : Val) : Bool := z.kind != 0
set_option maxRecDepth 100000 in
set_option maxHeartbeats 4000000 in
theorem count_fn_c (bG bS : Nat) (r c : Int) (A : Option Addr) (n ca cG : Nat) (l : List Val) (w : World) (hG : Blk w bG 28 #[.int .i64 r, .int .i64 c, .slice A n ca]) (hS : FnBox w bS 147) (hA : ManyR Val.cs 6 w A l) (hn : l.length = n) (hm : n ≤ 4096) (hl : l ≠ []) (htab : PowT w) :
    Calls Tryz.prog 248 #[.slice (some ⟨bG, 0, none⟩) 1 cG, .pointer (some ⟨bS, 0, none⟩)] w (RetA w 1 1 [countV (l.countP isNum)]) := by
  have HB := Lib.hid ((Below.refl _ w).alloc (Nat.le_refl _) (.cells #[.int .i64 0, .int .i64 0, .slice none 0 0] 28))
  have BX := Lib.hid (Blk.new w 28 #[.int .i64 0, .int .i64 0, .slice none 0 0])
  have HAL := Lib.hid (all_c bG r c A n ca cG l (w.alloc (.cells #[.int .i64 0, .int .i64 0, .slice none 0 0] 28)) (hG.alloc _) (hA.next HB.out) hn hm hl)
  have HN := Lib.hid (show l.length ≤ 4096 by omega)
  have HT := Lib.hid htab
  have HS := Lib.hid hS
  clear hG hA hn hl htab hS
  go_enter Tryz.func248, Tryz.ntmps248
  go_wp2_with fail
  refine HAL.out.mono ?_
  rintro x w1 ⟨A1, c1, rfl, hA1, B1⟩
  have BX1 := Lib.hid (BX.out.kept (B1.block _ BX.out.lt))
  have HB1 := Lib.hid (HB.out.trans (B1.mono HB.out.size))
  have HA1 := Lib.hid hA1
  clear B1 BX HB HAL hA1
  obtain ⟨N1, hN1⟩ : ∃ N1, l.length = N1 := ⟨_, rfl⟩
  have HN1 := Lib.hid hN1
  have hN4 : N1 ≤ 4096 := by have := HN.out; omega
  rw [hN1]
  clear hN1
  go_wp2_with fail
  go_loopw [4, 10] (fun v i wr => ∃ (j k : Nat), j ≤ N1 ∧ i = .int .i64 j ∧ v = .int .i64 k ∧ k ≤ j ∧ Hid ((l.take j).countP isNum = k) ∧ Hid (Below w1.heap.size w1 wr)) (fun _ i _ => N1 - (intOf i).toNat)
  case atStart => exact ⟨0, 0, Nat.zero_le _, rfl, rfl, Nat.le_refl _, Lib.hid rfl, Lib.hid (Below.refl _ _)⟩
  case round =>
    obtain ⟨j, k, hj, rfl, rfl, hk, hcnt, hb⟩ := hrel
    have bW := Lib.hid (HB1.out.trans (hb.out.mono HB1.out.size))
    have BXW := Lib.hid (BX1.out.kept (hb.out.block _ BX1.out.lt))
    by_cases hlt : j < N1
    · have hjl : j < l.length := by rw [HN1.out]; exact hlt
      obtain ⟨bA, oA, rfl, lA, hcA⟩ := (HA1.out.next hb.out) (fun e => by rw [e] at hjl; simp at hjl)
      have gv := hcA j hjl
      have htk := Lib.hid (show l.take (j + 1) = l.take j ++ [l[j]] from by rw [List.take_succ_eq_append_getElem hjl])
      clear hcA
      generalize l[j] = z at *
      obtain ⟨vk, m, ex, t, b, f⟩ := z
      have c0 := gv 0 _ rfl
      have c1 := gv 1 _ rfl
      have c2 := gv 2 _ rfl
      have c3 := gv 3 _ rfl
      have c4 := gv 4 _ rfl
      have c5 := gv 5 _ rfl
      rw [Nat.add_zero] at c0
      clear gv
      have hj0 : (0 : Int) ≤ (j : Int) := by omega
      have hjn : (j : Int) < (N1 : Int) := by omega
      have wj : IntKind.i64.wrap ((j : Int) + 1) = (j : Int) + 1 := IntWalk.i64_in _ (by omega)
      have wk : IntKind.i64.wrap ((k : Int) + 1) = (k : Int) + 1 := IntWalk.i64_in _ (by omega)
      have BV := Lib.hid (Blk.new wr 41 #[.int .i64 vk, .int .i64 m, .int .i64 ex, .string t, .bool b, .int .i64 f])
      have HB2 := Lib.hid (hb.out.alloc hb.out.size (.cells #[.int .i64 vk, .int .i64 m, .int .i64 ex, .string t, .bool b, .int .i64 f] 41))
      have s0 := (HS.out.next (bW.out.alloc bW.out.size (.cells #[.int .i64 vk, .int .i64 m, .int .i64 ex, .string t, .bool b, .int .i64 f] 41))).1
      have HP0 := show Calls Tryz.prog _ _ (wr.alloc (.cells #[.int .i64 vk, .int .i64 m, .int .i64 ex, .string t, .bool b, .int .i64 f] 41)) (fun x w' => x = .returned (.bool (isNum ⟨vk, m, ex, t, b, f⟩)) ∧ Below (wr.alloc (.cells #[.int .i64 vk, .int .i64 m, .int .i64 ex, .string t, .bool b, .int .i64 f] 41)).heap.size (wr.alloc (.cells #[.int .i64 vk, .int .i64 m, .int .i64 ex, .string t, .bool b, .int .i64 f] 41)) w') from isnum_c vk m ex t b f (wr.alloc (.cells #[.int .i64 vk, .int .i64 m, .int .i64 ex, .string t, .bool b, .int .i64 f] 41))
      have HC := Lib.hid (show (l.take (j + 1)).countP isNum = k + (if isNum ⟨vk, m, ex, t, b, f⟩ then 1 else 0) by rw [htk.out, List.countP_append, hcnt.out]; simp [List.countP_cons])
      obtain ⟨q, hq⟩ : ∃ q, isNum ⟨vk, m, ex, t, b, f⟩ = q := ⟨_, rfl⟩
      rw [hq] at HC HP0
      have HP1 := Lib.hid HP0
      clear hq hcnt htk hb bW BXW HP0
      go_wp2_with fail
      refine HP1.out.mono ?_
      rintro x w2 ⟨rfl, B2⟩
      have HB3 := Lib.hid (HB2.out.trans (B2.mono HB2.out.size))
      clear B2 HB2 HP1 s0 c0 c1 c2 c3 c4 c5
      cases q
      · go_wp2_with fail
        go_roundw
        case rel => exact ⟨j + 1, k, hlt, by go_num, rfl, by omega, Lib.hid (by rw [HC.out]; rfl), HB3⟩
        case measure => simp [intOf]; omega
      · go_wp2_with fail
        go_roundw
        case rel => exact ⟨j + 1, k + 1, hlt, by go_num, by go_num, by omega, Lib.hid (by rw [HC.out]; rfl), HB3⟩
        case measure => simp [intOf]; omega
    · obtain rfl : j = N1 := by omega
      have hjj : decide ((j : Int) < (j : Int)) = false := decide_eq_false (by omega)
      have HE := Lib.hid (show l.countP isNum = k by have := hcnt.out; rwa [List.take_of_length_le (by rw [HN1.out]; exact Nat.le_refl _)] at this)
      have HWH0 := whole_c k (by omega) wr (HT.out.next bW.out)
      have HCV : countV k = okV (wholeF k) := rfl
      obtain ⟨p, hp⟩ : ∃ p, wholeF k = p := ⟨_, rfl⟩
      have HRT := Lib.hid (countV_right k)
      have HFT := Lib.hid (countV_fits k)
      rw [HCV, hp] at HRT HFT
      rw [hp] at HWH0 HCV
      obtain ⟨p1, p2⟩ := p
      have HEQ := Lib.hid (show countV (l.countP isNum) = ⟨1, p1, p2, ⟨#[]⟩, false, 0⟩ by rw [HE.out, HCV]; rfl)
      have HWH := Lib.hid (show Calls Tryz.prog 249 #[.int .i64 k] wr (fun x w' => x = .returned (.agg #[.int .i64 p1, .int .i64 p2]) ∧ Below wr.heap.size wr w') from HWH0)
      have HOF := Lib.hid (fun W => vof_c p1 p2 W)
      have HO := Lib.hid (fun W => show Calls Tryz.prog 127 #[.agg #[.int .i64 1, .int .i64 p1, .int .i64 p2, .string ⟨#[]⟩, .bool false, .int .i64 0]] W (RetA W 1 1 [⟨1, p1, p2, ⟨#[]⟩, false, 0⟩]) from one_c ⟨1, p1, p2, ⟨#[]⟩, false, 0⟩ HRT.out HFT.out W)
      clear HWH0 HCV hp hb hcnt HE HRT HFT BX1 HB1
      go_wp2_with fail
      refine HWH.out.mono ?_
      rintro x w2 ⟨rfl, B1⟩
      have BX2 := Lib.hid (BXW.out.kept (B1.block _ BXW.out.lt))
      have HB2 := Lib.hid (bW.out.trans (B1.mono bW.out.size))
      clear B1 BXW bW
      go_wp2_with fail
      refine (HOF.out _).mono ?_
      rintro x w3 ⟨rfl, B1⟩
      have BX3 := Lib.hid (BX2.out.kept (B1.block _ BX2.out.lt))
      have HB3 := Lib.hid (HB2.out.trans (B1.mono HB2.out.size))
      clear B1 BX2 HB2
      go_wp2_with fail
      refine (HO.out _).mono ?_
      rintro y w9 ⟨A9, n9, ca9, rfl, hn9, hA9, hF9, B9⟩
      have BXt := Lib.hid (BX3.out.kept (B9.block _ BX3.out.lt))
      have HBt := Lib.hid (HB3.out.trans (B9.mono HB3.out.size))
      have HN9 := Lib.hid hn9
      have HF9 := Lib.hid (show ∀ a, A9 = some a → w.heap.size < a.block from fun a e => Nat.lt_of_lt_of_le BX3.out.lt (hF9 a e))
      have HA9 := Lib.hid (manyR_put3 hA9 (X := w.heap.size) (fun a e => by have := HF9.out a e; omega) (.int .i64 1) (.int .i64 1) (.slice A9 n9 ca9))
      clear B9 hn9 hA9 hF9 BX3 HB3
      have e0 := BXt.out.cell 0
      have e1 := BXt.out.cell 1
      have e2 := BXt.out.cell 2
      simp only [List.getElem?_toArray, List.getElem?_cons_zero, List.getElem?_cons_succ] at e0 e1 e2
      have f0 := BXt.out.frozen 0
      have f1 := BXt.out.frozen 1
      have f2 := BXt.out.frozen 2
      have lX := BXt.out.lt
      go_wp2_with fail
      change bodyPost _ _ _ _ _ (put3 w9 w.heap.size (.int .i64 1) (.int .i64 1) (.slice A9 n9 ca9))
      have bXt := Lib.hid (blk_put3 BXt.out (.int .i64 1) (.int .i64 1) (.slice A9 n9 ca9))
      have HBu := below_put3 HBt.out (Nat.le_refl _) (.int .i64 1) (.int .i64 1) (.slice A9 n9 ca9)
      generalize put3 w9 w.heap.size (.int .i64 1) (.int .i64 1) (.slice A9 n9 ca9) = W2 at *
      have d0 := bXt.out.cell 0
      have d1 := bXt.out.cell 1
      have d2 := bXt.out.cell 2
      simp only [List.getElem?_toArray, List.getElem?_cons_zero, List.getElem?_cons_succ] at d0 d1 d2
      exact bodyPost_ret (v := .agg #[(.int .i64 1), (.int .i64 1), .slice A9 n9 ca9]) (by simp [results, Tryz.f248, go_sem, d0, d1, d2]) rfl ⟨_, _, _, rfl, HN9.out, (by first | exact HA9.out | (rw [HEQ.out]; exact HA9.out)), fun a e => Nat.le_of_lt (HF9.out a e), HBu⟩
set_option maxRecDepth 100000 in
set_option maxHeartbeats 4000000 in
theorem counta_fn_c (bG bS : Nat) (r c : Int) (A : Option Addr) (n ca cG : Nat) (l : List Val) (w : World) (hG : Blk w bG 28 #[.int .i64 r, .int .i64 c, .slice A n ca]) (hS : FnBox w bS 148) (hA : ManyR Val.cs 6 w A l) (hn : l.length = n) (hm : n ≤ 4096) (hl : l ≠ []) (htab : PowT w) :
    Calls Tryz.prog 248 #[.slice (some ⟨bG, 0, none⟩) 1 cG, .pointer (some ⟨bS, 0, none⟩)] w (RetA w 1 1 [countV (l.countP isAny)]) := by
  have HB := Lib.hid ((Below.refl _ w).alloc (Nat.le_refl _) (.cells #[.int .i64 0, .int .i64 0, .slice none 0 0] 28))
  have BX := Lib.hid (Blk.new w 28 #[.int .i64 0, .int .i64 0, .slice none 0 0])
  have HAL := Lib.hid (all_c bG r c A n ca cG l (w.alloc (.cells #[.int .i64 0, .int .i64 0, .slice none 0 0] 28)) (hG.alloc _) (hA.next HB.out) hn hm hl)
  have HN := Lib.hid (show l.length ≤ 4096 by omega)
  have HT := Lib.hid htab
  have HS := Lib.hid hS
  clear hG hA hn hl htab hS
  go_enter Tryz.func248, Tryz.ntmps248
  go_wp2_with fail
  refine HAL.out.mono ?_
  rintro x w1 ⟨A1, c1, rfl, hA1, B1⟩
  have BX1 := Lib.hid (BX.out.kept (B1.block _ BX.out.lt))
  have HB1 := Lib.hid (HB.out.trans (B1.mono HB.out.size))
  have HA1 := Lib.hid hA1
  clear B1 BX HB HAL hA1
  obtain ⟨N1, hN1⟩ : ∃ N1, l.length = N1 := ⟨_, rfl⟩
  have HN1 := Lib.hid hN1
  have hN4 : N1 ≤ 4096 := by have := HN.out; omega
  rw [hN1]
  clear hN1
  go_wp2_with fail
  go_loopw [4, 10] (fun v i wr => ∃ (j k : Nat), j ≤ N1 ∧ i = .int .i64 j ∧ v = .int .i64 k ∧ k ≤ j ∧ Hid ((l.take j).countP isAny = k) ∧ Hid (Below w1.heap.size w1 wr)) (fun _ i _ => N1 - (intOf i).toNat)
  case atStart => exact ⟨0, 0, Nat.zero_le _, rfl, rfl, Nat.le_refl _, Lib.hid rfl, Lib.hid (Below.refl _ _)⟩
  case round =>
    obtain ⟨j, k, hj, rfl, rfl, hk, hcnt, hb⟩ := hrel
    have bW := Lib.hid (HB1.out.trans (hb.out.mono HB1.out.size))
    have BXW := Lib.hid (BX1.out.kept (hb.out.block _ BX1.out.lt))
    by_cases hlt : j < N1
    · have hjl : j < l.length := by rw [HN1.out]; exact hlt
      obtain ⟨bA, oA, rfl, lA, hcA⟩ := (HA1.out.next hb.out) (fun e => by rw [e] at hjl; simp at hjl)
      have gv := hcA j hjl
      have htk := Lib.hid (show l.take (j + 1) = l.take j ++ [l[j]] from by rw [List.take_succ_eq_append_getElem hjl])
      clear hcA
      generalize l[j] = z at *
      obtain ⟨vk, m, ex, t, b, f⟩ := z
      have c0 := gv 0 _ rfl
      have c1 := gv 1 _ rfl
      have c2 := gv 2 _ rfl
      have c3 := gv 3 _ rfl
      have c4 := gv 4 _ rfl
      have c5 := gv 5 _ rfl
      rw [Nat.add_zero] at c0
      clear gv
      have hj0 : (0 : Int) ≤ (j : Int) := by omega
      have hjn : (j : Int) < (N1 : Int) := by omega
      have wj : IntKind.i64.wrap ((j : Int) + 1) = (j : Int) + 1 := IntWalk.i64_in _ (by omega)
      have wk : IntKind.i64.wrap ((k : Int) + 1) = (k : Int) + 1 := IntWalk.i64_in _ (by omega)
      have BV := Lib.hid (Blk.new wr 41 #[.int .i64 vk, .int .i64 m, .int .i64 ex, .string t, .bool b, .int .i64 f])
      have HB2 := Lib.hid (hb.out.alloc hb.out.size (.cells #[.int .i64 vk, .int .i64 m, .int .i64 ex, .string t, .bool b, .int .i64 f] 41))
      have s0 := (HS.out.next (bW.out.alloc bW.out.size (.cells #[.int .i64 vk, .int .i64 m, .int .i64 ex, .string t, .bool b, .int .i64 f] 41))).1
      have HP0 := show Calls Tryz.prog _ _ (wr.alloc (.cells #[.int .i64 vk, .int .i64 m, .int .i64 ex, .string t, .bool b, .int .i64 f] 41)) (fun x w' => x = .returned (.bool (isAny ⟨vk, m, ex, t, b, f⟩)) ∧ Below (wr.alloc (.cells #[.int .i64 vk, .int .i64 m, .int .i64 ex, .string t, .bool b, .int .i64 f] 41)).heap.size (wr.alloc (.cells #[.int .i64 vk, .int .i64 m, .int .i64 ex, .string t, .bool b, .int .i64 f] 41)) w') from isany_c vk m ex t b f (wr.alloc (.cells #[.int .i64 vk, .int .i64 m, .int .i64 ex, .string t, .bool b, .int .i64 f] 41))
      have HC := Lib.hid (show (l.take (j + 1)).countP isAny = k + (if isAny ⟨vk, m, ex, t, b, f⟩ then 1 else 0) by rw [htk.out, List.countP_append, hcnt.out]; simp [List.countP_cons])
      obtain ⟨q, hq⟩ : ∃ q, isAny ⟨vk, m, ex, t, b, f⟩ = q := ⟨_, rfl⟩
      rw [hq] at HC HP0
      have HP1 := Lib.hid HP0
      clear hq hcnt htk hb bW BXW HP0
      go_wp2_with fail
      refine HP1.out.mono ?_
      rintro x w2 ⟨rfl, B2⟩
      have HB3 := Lib.hid (HB2.out.trans (B2.mono HB2.out.size))
      clear B2 HB2 HP1 s0 c0 c1 c2 c3 c4 c5
      cases q
      · go_wp2_with fail
        go_roundw
        case rel => exact ⟨j + 1, k, hlt, by go_num, rfl, by omega, Lib.hid (by rw [HC.out]; rfl), HB3⟩
        case measure => simp [intOf]; omega
      · go_wp2_with fail
        go_roundw
        case rel => exact ⟨j + 1, k + 1, hlt, by go_num, by go_num, by omega, Lib.hid (by rw [HC.out]; rfl), HB3⟩
        case measure => simp [intOf]; omega
    · obtain rfl : j = N1 := by omega
      have hjj : decide ((j : Int) < (j : Int)) = false := decide_eq_false (by omega)
      have HE := Lib.hid (show l.countP isAny = k by have := hcnt.out; rwa [List.take_of_length_le (by rw [HN1.out]; exact Nat.le_refl _)] at this)
      have HWH0 := whole_c k (by omega) wr (HT.out.next bW.out)
      have HCV : countV k = okV (wholeF k) := rfl
      obtain ⟨p, hp⟩ : ∃ p, wholeF k = p := ⟨_, rfl⟩
      have HRT := Lib.hid (countV_right k)
      have HFT := Lib.hid (countV_fits k)
      rw [HCV, hp] at HRT HFT
      rw [hp] at HWH0 HCV
      obtain ⟨p1, p2⟩ := p
      have HEQ := Lib.hid (show countV (l.countP isAny) = ⟨1, p1, p2, ⟨#[]⟩, false, 0⟩ by rw [HE.out, HCV]; rfl)
      have HWH := Lib.hid (show Calls Tryz.prog 249 #[.int .i64 k] wr (fun x w' => x = .returned (.agg #[.int .i64 p1, .int .i64 p2]) ∧ Below wr.heap.size wr w') from HWH0)
      have HOF := Lib.hid (fun W => vof_c p1 p2 W)
      have HO := Lib.hid (fun W => show Calls Tryz.prog 127 #[.agg #[.int .i64 1, .int .i64 p1, .int .i64 p2, .string ⟨#[]⟩, .bool false, .int .i64 0]] W (RetA W 1 1 [⟨1, p1, p2, ⟨#[]⟩, false, 0⟩]) from one_c ⟨1, p1, p2, ⟨#[]⟩, false, 0⟩ HRT.out HFT.out W)
      clear HWH0 HCV hp hb hcnt HE HRT HFT BX1 HB1
      go_wp2_with fail
      refine HWH.out.mono ?_
      rintro x w2 ⟨rfl, B1⟩
      have BX2 := Lib.hid (BXW.out.kept (B1.block _ BXW.out.lt))
      have HB2 := Lib.hid (bW.out.trans (B1.mono bW.out.size))
      clear B1 BXW bW
      go_wp2_with fail
      refine (HOF.out _).mono ?_
      rintro x w3 ⟨rfl, B1⟩
      have BX3 := Lib.hid (BX2.out.kept (B1.block _ BX2.out.lt))
      have HB3 := Lib.hid (HB2.out.trans (B1.mono HB2.out.size))
      clear B1 BX2 HB2
      go_wp2_with fail
      refine (HO.out _).mono ?_
      rintro y w9 ⟨A9, n9, ca9, rfl, hn9, hA9, hF9, B9⟩
      have BXt := Lib.hid (BX3.out.kept (B9.block _ BX3.out.lt))
      have HBt := Lib.hid (HB3.out.trans (B9.mono HB3.out.size))
      have HN9 := Lib.hid hn9
      have HF9 := Lib.hid (show ∀ a, A9 = some a → w.heap.size < a.block from fun a e => Nat.lt_of_lt_of_le BX3.out.lt (hF9 a e))
      have HA9 := Lib.hid (manyR_put3 hA9 (X := w.heap.size) (fun a e => by have := HF9.out a e; omega) (.int .i64 1) (.int .i64 1) (.slice A9 n9 ca9))
      clear B9 hn9 hA9 hF9 BX3 HB3
      have e0 := BXt.out.cell 0
      have e1 := BXt.out.cell 1
      have e2 := BXt.out.cell 2
      simp only [List.getElem?_toArray, List.getElem?_cons_zero, List.getElem?_cons_succ] at e0 e1 e2
      have f0 := BXt.out.frozen 0
      have f1 := BXt.out.frozen 1
      have f2 := BXt.out.frozen 2
      have lX := BXt.out.lt
      go_wp2_with fail
      change bodyPost _ _ _ _ _ (put3 w9 w.heap.size (.int .i64 1) (.int .i64 1) (.slice A9 n9 ca9))
      have bXt := Lib.hid (blk_put3 BXt.out (.int .i64 1) (.int .i64 1) (.slice A9 n9 ca9))
      have HBu := below_put3 HBt.out (Nat.le_refl _) (.int .i64 1) (.int .i64 1) (.slice A9 n9 ca9)
      generalize put3 w9 w.heap.size (.int .i64 1) (.int .i64 1) (.slice A9 n9 ca9) = W2 at *
      have d0 := bXt.out.cell 0
      have d1 := bXt.out.cell 1
      have d2 := bXt.out.cell 2
      simp only [List.getElem?_toArray, List.getElem?_cons_zero, List.getElem?_cons_succ] at d0 d1 d2
      exact bodyPost_ret (v := .agg #[(.int .i64 1), (.int .i64 1), .slice A9 n9 ca9]) (by simp [results, Tryz.f248, go_sem, d0, d1, d2]) rfl ⟨_, _, _, rfl, HN9.out, (by first | exact HA9.out | (rw [HEQ.out]; exact HA9.out)), fun a e => Nat.le_of_lt (HF9.out a e), HBu⟩
end Go.Proofs.YtdmbppgogdkpdaaGreatDoor
