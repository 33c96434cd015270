/-
  shape.Each over Final's function; eval.Final: their contracts. Condition: the values can be read, their ints fit 64 bits; at most 4096 of them.
  counterpaneref09.Bad, counterpaneref22.bad, counterpaneref02.Number: their contracts. No condition.
  counterpaneref22.Final: its contract. Condition: the values can be read, their ints fit 64 bits; at most 4096 of them.
-/
import Derived.Test.YtccnkkffeokgcaaGreatDoorQ14
namespace Go.Proofs.YtccnkkffeokgcaaGreatDoor
open Go.RowKit
/-- What an array comes to at the end. -/
def RetF (w : World) (r c : Int) (l : List Val) (e : Ending) (w' : World) : Prop := (RightA r c l → RetA w r c (l.map fin) e w') ∧ (¬ RightA r c l → RetA w 1 1 [badV 9] e w')
set_option maxRecDepth 100000 in
set_option maxHeartbeats 4000000 in
theorem each_c (r c : Int) (A : Option Addr) (n ca : Nat) (l : List Val) (w : World) (hA : ManyR Val.cs 6 w A l) (hn : l.length = n) (hm : n ≤ 4096) (hf : ∀ v ∈ l, FitsV v) :
    Calls Tryz.prog 16 #[.agg #[.int .i64 r, .int .i64 c, .slice A n ca], .func (.func 17) #[] #[]] w (RetF w r c l) := by
  have HSh := Lib.hid (fun W (hW : Below w.heap.size w W) => shright_c r c A n ca l W (hA.next hW) hn hm hf)
  have HA := Lib.hid hA
  have HN := Lib.hid hn
  have HF := Lib.hid hf
  clear hA hn hf
  have BX := Lib.hid (((Blk.new w 24 #[.int .i64 r, .int .i64 c, .slice A n ca]).alloc (.cells #[.func (.func 17) #[] #[]] 65)).alloc (.cells #[.int .i64 0, .int .i64 0, .slice none 0 0] 24))
  have HB := Lib.hid ((((Below.refl _ w).alloc (Nat.le_refl _) (.cells #[.int .i64 r, .int .i64 c, .slice A n ca] 24)).alloc (by simp) (.cells #[.func (.func 17) #[] #[]] 65)).alloc (by simp; omega) (.cells #[.int .i64 0, .int .i64 0, .slice none 0 0] 24))
  have BF := Lib.hid (show Blk (((w.alloc (.cells #[.int .i64 r, .int .i64 c, .slice A n ca] 24)).alloc (.cells #[.func (.func 17) #[] #[]] 65)).alloc (.cells #[.int .i64 0, .int .i64 0, .slice none 0 0] 24)) (w.heap.size + 1) 65 #[.func (.func 17) #[] #[]] by
    have := (Blk.new (w.alloc (.cells #[.int .i64 r, .int .i64 c, .slice A n ca] 24)) 65 #[.func (.func 17) #[] #[]]).alloc (.cells #[.int .i64 0, .int .i64 0, .slice none 0 0] 24)
    rwa [show (w.alloc (.cells #[.int .i64 r, .int .i64 c, .slice A n ca] 24)).heap.size = w.heap.size + 1 by simp] at this)
  have BS := Lib.hid (show Blk (((w.alloc (.cells #[.int .i64 r, .int .i64 c, .slice A n ca] 24)).alloc (.cells #[.func (.func 17) #[] #[]] 65)).alloc (.cells #[.int .i64 0, .int .i64 0, .slice none 0 0] 24)) (w.heap.size + 1 + 1) 24 #[.int .i64 0, .int .i64 0, .slice none 0 0] by
    have := Blk.new ((w.alloc (.cells #[.int .i64 r, .int .i64 c, .slice A n ca] 24)).alloc (.cells #[.func (.func 17) #[] #[]] 65)) 24 #[.int .i64 0, .int .i64 0, .slice none 0 0]
    rwa [show ((w.alloc (.cells #[.int .i64 r, .int .i64 c, .slice A n ca] 24)).alloc (.cells #[.func (.func 17) #[] #[]] 65)).heap.size = w.heap.size + 1 + 1 by simp] at this)
  go_enter Tryz.func16, Tryz.ntmps16
  go_wp2_with fail
  generalize (((w.alloc (.cells #[.int .i64 r, .int .i64 c, .slice A n ca] 24)).alloc (.cells #[.func (.func 17) #[] #[]] 65)).alloc (.cells #[.int .i64 0, .int .i64 0, .slice none 0 0] 24)) = V at *
  refine (HSh.out _ HB.out).mono ?_
  rintro y w1 ⟨b, rfl, r1, B1⟩
  have HR1 := Lib.hid r1
  have BX1 := Lib.hid (BX.out.kept (B1.block _ BX.out.lt))
  have BF1 := Lib.hid (BF.out.kept (B1.block _ BF.out.lt))
  have BS1 := Lib.hid (BS.out.kept (B1.block _ BS.out.lt))
  have HB1 := Lib.hid (HB.out.trans (B1.mono HB.out.size))
  clear B1 BX BF BS HB r1
  cases b
  · go_wp2_with fail
    refine (broken_c _).mono ?_
    rintro y w2 ⟨G, k, cg, rfl, hk, hG, hFr, B1⟩
    have HK := Lib.hid (show ¬ RightA r c l from fun h => by have := HR1.out.2 h; cases this)
    have bS2 := Lib.hid (BS1.out.kept (B1.block _ BS1.out.lt))
    have HB2 := Lib.hid (HB1.out.trans (B1.mono HB1.out.size))
    have HKn := Lib.hid hk
    have HFr := Lib.hid (show ∀ z, G = some z → w.heap.size ≤ z.block from fun z hz => Nat.le_trans HB1.out.size (hFr z hz))
    have HG := Lib.hid (manyR_put3 (X := w.heap.size + 1 + 1) hG (fun z hz => by have := hFr z hz; have := BS1.out.lt; omega) (.int .i64 1) (.int .i64 1) (.slice G k cg))
    clear B1 hk hG hFr
    have e0 := bS2.out.cell 0
    have e1 := bS2.out.cell 1
    have e2 := bS2.out.cell 2
    simp only [List.getElem?_toArray, List.getElem?_cons_zero, List.getElem?_cons_succ] at e0 e1 e2
    have f0 := bS2.out.frozen 0
    have f1 := bS2.out.frozen 1
    have f2 := bS2.out.frozen 2
    have lX := bS2.out.lt
    go_wp2_with fail
    change bodyPost _ _ _ _ _ (put3 w2 (w.heap.size + 1 + 1) (.int .i64 1) (.int .i64 1) (.slice G k cg))
    have bX2 := Lib.hid (blk_put3 bS2.out (.int .i64 1) (.int .i64 1) (.slice G k cg))
    have HB3 := below_put3 HB2.out (show w.heap.size ≤ w.heap.size + 1 + 1 by omega) (.int .i64 1) (.int .i64 1) (.slice G k cg)
    clear e0 e1 e2 f0 f1 f2 lX
    generalize put3 w2 (w.heap.size + 1 + 1) (.int .i64 1) (.int .i64 1) (.slice G k cg) = W2 at *
    have d0 := bX2.out.cell 0
    have d1 := bX2.out.cell 1
    have d2 := bX2.out.cell 2
    simp only [List.getElem?_toArray, List.getElem?_cons_zero, List.getElem?_cons_succ] at d0 d1 d2
    exact bodyPost_ret (v := .agg #[.int .i64 1, .int .i64 1, .slice G k cg]) (by simp [results, Tryz.f16, go_sem, d0, d1, d2]) rfl ⟨fun h => absurd h HK.out, fun _ => ⟨_, _, _, rfl, HKn.out, HG.out, HFr.out, HB3⟩⟩
  · have hra := HR1.out.1 rfl
    have hle := hra.le (by rw [HN.out]; exact hm)
    obtain ⟨R, rfl⟩ : ∃ R : Nat, r = R := ⟨r.toNat, by omega⟩
    obtain ⟨C, rfl⟩ : ∃ C : Nat, c = C := ⟨c.toNat, by omega⟩
    have hRC : R * C = l.length := by have := hra.len; omega
    have HRA := Lib.hid hra
    have HE : Hid (∀ W, Below w1.heap.size w1 W → ∀ i j : Nat, i < R → j < C → ∀ h : i * C + j < (l.map fin).length, Calls Tryz.prog 36 (#[.int .i64 i, .int .i64 j] ++ #[.pointer (some ⟨w.heap.size + 1, 0, none⟩), .pointer (some ⟨w.heap.size, 0, none⟩)]) W (RetV W (l.map fin)[i * C + j])) := fun W hW i j hi hj h => by
      have h' : i * C + j < l.length := by simpa using h
      have := each1_c (w.heap.size + 1) w.heap.size R C A n ca l W i j (i * C + j) (by simp) h' HN.out hm
        (by rw [hW.cell (p := ⟨w.heap.size + 1, 0, none⟩) BF1.out.lt]; simpa using BF1.out.cell 0) (Nat.lt_of_lt_of_le BF1.out.lt hW.size) (BX1.out.kept (hW.block _ BX1.out.lt)) ((HA.out.next HB1.out).next hW) hra.all HF.out (by omega) (by omega) (by omega)
      rwa [List.getElem_map]
    have HBu := Lib.hid (build_c R C (w.heap.size + 1) w.heap.size (l.map fin) w1 (by omega) (by omega) (by rw [List.length_map]; exact hRC.symm) (by rw [hRC, HN.out]; exact hm) HE.out)
    clear hra hle HE hRC
    have x0 := BX1.out.cell 0
    have x1 := BX1.out.cell 1
    have x2 := BX1.out.cell 2
    simp only [List.getElem?_toArray, List.getElem?_cons_zero, List.getElem?_cons_succ] at x0 x1 x2
    go_wp2_with fail
    refine HBu.out.mono ?_
    rintro y w2 ⟨G, k, cg, rfl, hk, hG, hFr, B1⟩
    clear x0 x1 x2
    have bS2 := Lib.hid (BS1.out.kept (B1.block _ BS1.out.lt))
    have HB2 := Lib.hid (HB1.out.trans (B1.mono HB1.out.size))
    have HKn := Lib.hid hk
    have HFr := Lib.hid (show ∀ z, G = some z → w.heap.size ≤ z.block from fun z hz => Nat.le_trans HB1.out.size (hFr z hz))
    have HG := Lib.hid (manyR_put3 (X := w.heap.size + 1 + 1) hG (fun z hz => by have := hFr z hz; have := BS1.out.lt; omega) (.int .i64 R) (.int .i64 C) (.slice G k cg))
    clear B1 hk hG hFr
    have e0 := bS2.out.cell 0
    have e1 := bS2.out.cell 1
    have e2 := bS2.out.cell 2
    simp only [List.getElem?_toArray, List.getElem?_cons_zero, List.getElem?_cons_succ] at e0 e1 e2
    have f0 := bS2.out.frozen 0
    have f1 := bS2.out.frozen 1
    have f2 := bS2.out.frozen 2
    have lX := bS2.out.lt
    go_wp2_with fail
    change bodyPost _ _ _ _ _ (put3 w2 (w.heap.size + 1 + 1) (.int .i64 R) (.int .i64 C) (.slice G k cg))
    have bX2 := Lib.hid (blk_put3 bS2.out (.int .i64 R) (.int .i64 C) (.slice G k cg))
    have HB3 := below_put3 HB2.out (show w.heap.size ≤ w.heap.size + 1 + 1 by omega) (.int .i64 R) (.int .i64 C) (.slice G k cg)
    clear e0 e1 e2 f0 f1 f2 lX
    generalize put3 w2 (w.heap.size + 1 + 1) (.int .i64 R) (.int .i64 C) (.slice G k cg) = W2 at *
    have d0 := bX2.out.cell 0
    have d1 := bX2.out.cell 1
    have d2 := bX2.out.cell 2
    simp only [List.getElem?_toArray, List.getElem?_cons_zero, List.getElem?_cons_succ] at d0 d1 d2
    exact bodyPost_ret (v := .agg #[.int .i64 R, .int .i64 C, .slice G k cg]) (by simp [results, Tryz.f16, go_sem, d0, d1, d2]) rfl ⟨fun _ => ⟨_, _, _, rfl, HKn.out, HG.out, HFr.out, HB3⟩, fun h => absurd HRA.out h⟩
set_option maxRecDepth 100000 in
set_option maxHeartbeats 4000000 in
theorem final_of (r c : Int) (A : Option Addr) (n ca : Nat) (r' c' : Int) (l' : List Val) (w : World)
    (hE : ∀ W, Below w.heap.size w W → Calls Tryz.prog 16 #[.agg #[.int .i64 r, .int .i64 c, .slice A n ca], .func (.func 17) #[] #[]] W (RetA W r' c' l')) :
    Calls Tryz.prog 5 #[.agg #[.int .i64 r, .int .i64 c, .slice A n ca]] w (RetA w r' c' l') := by
  have HE := Lib.hid hE
  clear hE
  have BX := Lib.hid ((Blk.new w 24 #[.int .i64 r, .int .i64 c, .slice A n ca]).alloc (.cells #[.int .i64 0, .int .i64 0, .slice none 0 0] 24))
  have HB := Lib.hid (((Below.refl _ w).alloc (Nat.le_refl _) (.cells #[.int .i64 r, .int .i64 c, .slice A n ca] 24)).alloc (by simp) (.cells #[.int .i64 0, .int .i64 0, .slice none 0 0] 24))
  have BS := Lib.hid (show Blk ((w.alloc (.cells #[.int .i64 r, .int .i64 c, .slice A n ca] 24)).alloc (.cells #[.int .i64 0, .int .i64 0, .slice none 0 0] 24)) (w.heap.size + 1) 24 #[.int .i64 0, .int .i64 0, .slice none 0 0] by
    have := Blk.new (w.alloc (.cells #[.int .i64 r, .int .i64 c, .slice A n ca] 24)) 24 #[.int .i64 0, .int .i64 0, .slice none 0 0]
    rwa [show (w.alloc (.cells #[.int .i64 r, .int .i64 c, .slice A n ca] 24)).heap.size = w.heap.size + 1 by simp] at this)
  go_enter Tryz.func5, Tryz.ntmps5
  go_wp2_with fail
  generalize ((w.alloc (.cells #[.int .i64 r, .int .i64 c, .slice A n ca] 24)).alloc (.cells #[.int .i64 0, .int .i64 0, .slice none 0 0] 24)) = V at *
  refine (HE.out _ HB.out).mono ?_
  rintro y w2 ⟨G, k, cg, rfl, hk, hG, hFr, B1⟩
  have BS1 := BS
  have HB1 := HB
  have hB1s := Lib.hid HB1.out.size
  have bS2 := Lib.hid (BS1.out.kept (B1.block _ BS1.out.lt))
  have HB2 := Lib.hid (HB1.out.trans (B1.mono HB1.out.size))
  have HKn := Lib.hid hk
  have HFr := Lib.hid (show ∀ z, G = some z → w.heap.size ≤ z.block from fun z hz => Nat.le_trans HB1.out.size (hFr z hz))
  have HG := Lib.hid (manyR_put3 (X := w.heap.size + 1) hG (fun z hz => by have := hFr z hz; have := BS1.out.lt; omega) (.int .i64 r') (.int .i64 c') (.slice G k cg))
  clear B1 hk hG hFr
  have e0 := bS2.out.cell 0
  have e1 := bS2.out.cell 1
  have e2 := bS2.out.cell 2
  simp only [List.getElem?_toArray, List.getElem?_cons_zero, List.getElem?_cons_succ] at e0 e1 e2
  have f0 := bS2.out.frozen 0
  have f1 := bS2.out.frozen 1
  have f2 := bS2.out.frozen 2
  have lX := bS2.out.lt
  go_wp2_with fail
  change bodyPost _ _ _ _ _ (put3 w2 (w.heap.size + 1) (.int .i64 r') (.int .i64 c') (.slice G k cg))
  have bX2 := Lib.hid (blk_put3 bS2.out (.int .i64 r') (.int .i64 c') (.slice G k cg))
  have HB3 := below_put3 HB2.out (show w.heap.size ≤ w.heap.size + 1 by omega) (.int .i64 r') (.int .i64 c') (.slice G k cg)
  clear e0 e1 e2 f0 f1 f2 lX
  generalize put3 w2 (w.heap.size + 1) (.int .i64 r') (.int .i64 c') (.slice G k cg) = W2 at *
  have d0 := bX2.out.cell 0
  have d1 := bX2.out.cell 1
  have d2 := bX2.out.cell 2
  simp only [List.getElem?_toArray, List.getElem?_cons_zero, List.getElem?_cons_succ] at d0 d1 d2
  exact bodyPost_ret (v := .agg #[.int .i64 r', .int .i64 c', .slice G k cg]) (by simp [results, Tryz.f5, go_sem, d0, d1, d2]) rfl ⟨_, _, _, rfl, HKn.out, HG.out, HFr.out, HB3⟩
theorem final_c (r c : Int) (A : Option Addr) (n ca : Nat) (l : List Val) (w : World) (hA : ManyR Val.cs 6 w A l) (hn : l.length = n) (hm : n ≤ 4096) (hf : ∀ v ∈ l, FitsV v) :
    Calls Tryz.prog 5 #[.agg #[.int .i64 r, .int .i64 c, .slice A n ca]] w (RetF w r c l) := by
  by_cases h : RightA r c l
  · exact (final_of r c A n ca r c (l.map fin) w (fun W hW => (each_c r c A n ca l W (hA.next hW) hn hm hf).mono fun e w' h' => h'.1 h)).mono fun e w' h' => ⟨fun _ => h', fun h2 => absurd h h2⟩
  · exact (final_of r c A n ca 1 1 [badV 9] w (fun W hW => (each_c r c A n ca l W (hA.next hW) hn hm hf).mono fun e w' h' => h'.2 h)).mono fun e w' h' => ⟨fun h2 => absurd h2 h, fun _ => h'⟩

set_option maxRecDepth 100000 in
set_option maxHeartbeats 4000000 in
theorem r09bad_c (w : World) : Calls Tryz.prog 32 #[.int .i64 9] w (RetA w 1 1 [badV 9]) := by
  go_enter Tryz.func32, Tryz.ntmps32
  go_wp2_with fail
  have bl := Blk.new w 24 #[.int .i64 1, .int .i64 1, .slice (some ⟨w.heap.size + 1, 0, none⟩) 1 1]
  have BX := Lib.hid (bl.alloc (.cells #[.int .i64 4, .int .i64 0, .int .i64 0, .string ⟨#[]⟩, .bool false, .int .i64 9] 41))
  have BV := Blk.new (w.alloc (.cells #[.int .i64 1, .int .i64 1, .slice (some ⟨w.heap.size + 1, 0, none⟩) 1 1] 24)) 41 #[.int .i64 4, .int .i64 0, .int .i64 0, .string ⟨#[]⟩, .bool false, .int .i64 9]
  have HB := (((Below.refl _ w).alloc (Nat.le_refl _) (.cells #[.int .i64 1, .int .i64 1, .slice (some ⟨w.heap.size + 1, 0, none⟩) 1 1] 24)).alloc (by simp) (.cells #[.int .i64 4, .int .i64 0, .int .i64 0, .string ⟨#[]⟩, .bool false, .int .i64 9] 41))
  rw [show (w.alloc (.cells #[.int .i64 1, .int .i64 1, .slice (some ⟨w.heap.size + 1, 0, none⟩) 1 1] 24)).heap.size = w.heap.size + 1 by simp] at BV
  generalize ((w.alloc (.cells #[.int .i64 1, .int .i64 1, .slice (some ⟨w.heap.size + 1, 0, none⟩) 1 1] 24)).alloc (.cells #[.int .i64 4, .int .i64 0, .int .i64 0, .string ⟨#[]⟩, .bool false, .int .i64 9] 41)) = W at *
  have HM := manyR_one BV
  rw [show (⟨4, 0, 0, ⟨#[]⟩, false, 9⟩ : Val) = badV 9 from (badV_in (by omega)).symm] at HM
  have d0 := BX.out.cell 0
  have d1 := BX.out.cell 1
  have d2 := BX.out.cell 2
  simp only [List.getElem?_toArray, List.getElem?_cons_zero, List.getElem?_cons_succ] at d0 d1 d2
  exact bodyPost_ret (v := .agg #[.int .i64 1, .int .i64 1, .slice (some ⟨w.heap.size + 1, 0, none⟩) 1 1]) (by simp [results, Tryz.f32, go_sem, d0, d1, d2]) rfl ⟨_, _, _, rfl, rfl, HM, fun z hz => by cases hz; exact Nat.le_succ _, HB⟩
set_option maxRecDepth 100000 in
set_option maxHeartbeats 4000000 in
theorem r22bad_c (w : World) : Calls Tryz.prog 19 #[.int .i64 9] w (RetA w 1 1 [badV 9]) := by
  have HB1 := Lib.hid ((Below.refl _ w).alloc (Nat.le_refl _) (.cells #[.int .i64 0, .int .i64 0, .slice none 0 0] 24))
  have BS1 := Lib.hid (Blk.new w 24 #[.int .i64 0, .int .i64 0, .slice none 0 0])
  go_enter Tryz.func19, Tryz.ntmps19
  go_wp2_with fail
  generalize w.alloc (.cells #[.int .i64 0, .int .i64 0, .slice none 0 0] 24) = w1 at *
  refine (r09bad_c _).mono ?_
  rintro y w2 ⟨G, k, cg, rfl, hk, hG, hFr, B1⟩
  have bS2 := Lib.hid (BS1.out.kept (B1.block _ BS1.out.lt))
  have HB2 := Lib.hid (HB1.out.trans (B1.mono HB1.out.size))
  have HKn := Lib.hid hk
  have HFr := Lib.hid (show ∀ z, G = some z → w.heap.size ≤ z.block from fun z hz => Nat.le_trans HB1.out.size (hFr z hz))
  have HG := Lib.hid (manyR_put3 (X := w.heap.size) hG (fun z hz => by have := hFr z hz; have := BS1.out.lt; omega) (.int .i64 1) (.int .i64 1) (.slice G k cg))
  clear B1 hk hG hFr
  have e0 := bS2.out.cell 0
  have e1 := bS2.out.cell 1
  have e2 := bS2.out.cell 2
  simp only [List.getElem?_toArray, List.getElem?_cons_zero, List.getElem?_cons_succ] at e0 e1 e2
  have f0 := bS2.out.frozen 0
  have f1 := bS2.out.frozen 1
  have f2 := bS2.out.frozen 2
  have lX := bS2.out.lt
  go_wp2_with fail
  change bodyPost _ _ _ _ _ (put3 w2 (w.heap.size) (.int .i64 1) (.int .i64 1) (.slice G k cg))
  have bX2 := Lib.hid (blk_put3 bS2.out (.int .i64 1) (.int .i64 1) (.slice G k cg))
  have HB3 := below_put3 HB2.out (show w.heap.size ≤ w.heap.size by omega) (.int .i64 1) (.int .i64 1) (.slice G k cg)
  clear e0 e1 e2 f0 f1 f2 lX
  generalize put3 w2 (w.heap.size) (.int .i64 1) (.int .i64 1) (.slice G k cg) = W2 at *
  have d0 := bX2.out.cell 0
  have d1 := bX2.out.cell 1
  have d2 := bX2.out.cell 2
  simp only [List.getElem?_toArray, List.getElem?_cons_zero, List.getElem?_cons_succ] at d0 d1 d2
  exact bodyPost_ret (v := .agg #[.int .i64 1, .int .i64 1, .slice G k cg]) (by simp [results, Tryz.f19, go_sem, d0, d1, d2]) rfl ⟨_, _, _, rfl, HKn.out, HG.out, HFr.out, HB3⟩
set_option maxRecDepth 100000 in
set_option maxHeartbeats 4000000 in
theorem number_c (w : World) : Calls Tryz.prog 15 #[.agg #[.int .i64 0, .int .i64 0]] w (RetV w ⟨1, 0, 0, ⟨#[]⟩, false, 0⟩) := by
  go_enter Tryz.func15, Tryz.ntmps15
  go_wp2_with fail
  exact bodyPost_ret (v := .agg #[.int .i64 1, .int .i64 0, .int .i64 0, .string ⟨#[]⟩, .bool false, .int .i64 0]) (by simp [results, Tryz.f15, go_sem]) rfl ⟨rfl, ((Below.refl _ w).alloc (Nat.le_refl _) _).alloc (by simp) _⟩

theorem ownsRow_lt {w : World} {base : Nat} {e : TypeId} {size : Nat} {v : Value} {n : Nat} {xs : List Value} (h : w.ownsRow base e size v n xs) : ∀ g, v.ownBlock = some g → g < w.heap.size := fun g hg => by
  rcases h.2 with ⟨hv, _⟩ | ⟨g', cap, cur, hv, _, hh, _⟩
  · rw [hv] at hg; cases hg
  · rw [hv] at hg; cases hg
    exact (Array.getElem?_eq_some_iff.1 hh).1
theorem put6_heap (W : World) (X : Nat) (a b c d e f : Value) {g : Nat} (h : g ≠ X) : (put6 W X a b c d e f).heap[g]? = W.heap[g]? := by
  unfold put6
  rw [Below.heap_setCell _ _ _ _ h, Below.heap_setCell _ _ _ _ h, Below.heap_setCell _ _ _ _ h, Below.heap_setCell _ _ _ _ h, Below.heap_setCell _ _ _ _ h, Below.heap_setCell _ _ _ _ h]
def FInv (w : World) (r c : Int) (A : Option Addr) (n ca X : Nat) (m : List Val) (k : Nat) (W : World) : Prop := Below w.heap.size w W ∧ Blk W w.heap.size 24 #[.int .i64 r, .int .i64 c, .slice A n ca] ∧ Blk W (w.heap.size + 1) 24 #[.int .i64 0, .int .i64 0, .slice none 0 0] ∧ ∃ G g, Blk W X 24 #[.int .i64 r, .int .i64 c, .slice G k g] ∧ W.ownsRow w.heap.size 41 6 (.slice G k g) k ((m.take k).flatMap Val.cs)
set_option maxRecDepth 100000 in
set_option maxHeartbeats 4000000 in
theorem rfinal_c (r c : Int) (A : Option Addr) (n ca : Nat) (l : List Val) (w : World) (hA : ManyR Val.cs 6 w A l) (hn : l.length = n) (hm : n ≤ 4096) (hf : ∀ v ∈ l, FitsV v) :
    Calls Tryz.prog 7 #[.agg #[.int .i64 r, .int .i64 c, .slice A n ca]] w (RetF w r c l) := by
  obtain ⟨i0, hi, hz0, hz1, hz2⟩ := info_parts Tryz.infoV
  have HSh := Lib.hid (fun W (hW : Below w.heap.size w W) => r09right_c r c A n ca l W (hA.next hW) hn hm hf)
  have HA := Lib.hid hA
  have HN := Lib.hid hn
  clear hA hn hf
  have BX := Lib.hid ((Blk.new w 24 #[.int .i64 r, .int .i64 c, .slice A n ca]).alloc (.cells #[.int .i64 0, .int .i64 0, .slice none 0 0] 24))
  have HB := Lib.hid (((Below.refl _ w).alloc (Nat.le_refl _) (.cells #[.int .i64 r, .int .i64 c, .slice A n ca] 24)).alloc (by simp) (.cells #[.int .i64 0, .int .i64 0, .slice none 0 0] 24))
  have BS := Lib.hid (show Blk ((w.alloc (.cells #[.int .i64 r, .int .i64 c, .slice A n ca] 24)).alloc (.cells #[.int .i64 0, .int .i64 0, .slice none 0 0] 24)) (w.heap.size + 1) 24 #[.int .i64 0, .int .i64 0, .slice none 0 0] by
    have := Blk.new (w.alloc (.cells #[.int .i64 r, .int .i64 c, .slice A n ca] 24)) 24 #[.int .i64 0, .int .i64 0, .slice none 0 0]
    rwa [show (w.alloc (.cells #[.int .i64 r, .int .i64 c, .slice A n ca] 24)).heap.size = w.heap.size + 1 by simp] at this)
  go_enter Tryz.func7, Tryz.ntmps7
  go_wp2_with fail
  generalize ((w.alloc (.cells #[.int .i64 r, .int .i64 c, .slice A n ca] 24)).alloc (.cells #[.int .i64 0, .int .i64 0, .slice none 0 0] 24)) = V at *
  refine (HSh.out _ HB.out).mono ?_
  rintro y w1 ⟨b, rfl, r1, B1⟩
  have HR1 := Lib.hid r1
  have BX1 := Lib.hid (BX.out.kept (B1.block _ BX.out.lt))
  have BS1 := Lib.hid (BS.out.kept (B1.block _ BS.out.lt))
  have HB1 := Lib.hid (HB.out.trans (B1.mono HB.out.size))
  clear B1 BX BS HB r1 HSh
  cases b
  · go_wp2_with fail
    refine (r22bad_c _).mono ?_
    rintro y w2 ⟨G, k, cg, rfl, hk, hG, hFr, B1⟩
    have HK := Lib.hid (show ¬ RightA r c l from fun h => by have := HR1.out.2 h; cases this)
    have bS2 := Lib.hid (BS1.out.kept (B1.block _ BS1.out.lt))
    have HB2 := Lib.hid (HB1.out.trans (B1.mono HB1.out.size))
    have HKn := Lib.hid hk
    have HFr := Lib.hid (show ∀ z, G = some z → w.heap.size ≤ z.block from fun z hz => Nat.le_trans HB1.out.size (hFr z hz))
    have HG := Lib.hid (manyR_put3 (X := w.heap.size + 1) hG (fun z hz => by have := hFr z hz; have := BS1.out.lt; omega) (.int .i64 1) (.int .i64 1) (.slice G k cg))
    clear B1 hk hG hFr
    have e0 := bS2.out.cell 0
    have e1 := bS2.out.cell 1
    have e2 := bS2.out.cell 2
    simp only [List.getElem?_toArray, List.getElem?_cons_zero, List.getElem?_cons_succ] at e0 e1 e2
    have f0 := bS2.out.frozen 0
    have f1 := bS2.out.frozen 1
    have f2 := bS2.out.frozen 2
    have lX := bS2.out.lt
    go_wp2_with fail
    change bodyPost _ _ _ _ _ (put3 w2 (w.heap.size + 1) (.int .i64 1) (.int .i64 1) (.slice G k cg))
    have bX2 := Lib.hid (blk_put3 bS2.out (.int .i64 1) (.int .i64 1) (.slice G k cg))
    have HB3 := below_put3 HB2.out (show w.heap.size ≤ w.heap.size + 1 by omega) (.int .i64 1) (.int .i64 1) (.slice G k cg)
    clear e0 e1 e2 f0 f1 f2 lX
    generalize put3 w2 (w.heap.size + 1) (.int .i64 1) (.int .i64 1) (.slice G k cg) = W2 at *
    have d0 := bX2.out.cell 0
    have d1 := bX2.out.cell 1
    have d2 := bX2.out.cell 2
    simp only [List.getElem?_toArray, List.getElem?_cons_zero, List.getElem?_cons_succ] at d0 d1 d2
    exact bodyPost_ret (v := .agg #[.int .i64 1, .int .i64 1, .slice G k cg]) (by simp [results, Tryz.f7, go_sem, d0, d1, d2]) rfl ⟨fun h => absurd h HK.out, fun _ => ⟨_, _, _, rfl, HKn.out, HG.out, HFr.out, HB3⟩⟩
  · have HRA := Lib.hid (HR1.out.1 rfl)
    have x0 := BX1.out.cell 0
    have x1 := BX1.out.cell 1
    have x2 := BX1.out.cell 2
    simp only [List.getElem?_toArray, List.getElem?_cons_zero, List.getElem?_cons_succ] at x0 x1 x2
    go_wp2_with fail
    have bl : Below w1.heap.size w1 (w1.alloc (.cells #[.int .i64 r, .int .i64 c, .slice none 0 0] 24)) := (Below.refl _ _).alloc (Nat.le_refl _) _
    have HI := Lib.hid (show FInv w r c A n ca w1.heap.size (l.map fin) 0 (w1.alloc (.cells #[.int .i64 r, .int .i64 c, .slice none 0 0] 24)) from
      ⟨HB1.out.trans (bl.mono HB1.out.size), BX1.out.alloc _, BS1.out.alloc _, _, _, Blk.new w1 24 #[.int .i64 r, .int .i64 c, .slice none 0 0], World.ownsRow_nil _ _ _ _⟩)
    have HX := Lib.hid (show w.heap.size + 1 < w1.heap.size from BS1.out.lt)
    clear x0 x1 x2 BX1 BS1 HB1 bl
    generalize w1.alloc (.cells #[.int .i64 r, .int .i64 c, .slice none 0 0] 24) = W0 at *
    generalize w1.heap.size = X at *
    go_loopw [4] (fun i wr => ∃ j : Nat, j ≤ n ∧ i = .int .i64 j ∧ Hid (FInv w r c A n ca X (l.map fin) j wr)) (fun i _ => n - (intOf i).toNat)
    case atStart => exact ⟨0, Nat.zero_le _, rfl, HI⟩
    case round =>
      obtain ⟨j, hj, rfl, hI⟩ := hrel
      obtain ⟨HB3, BX3, BS3, G, g, BO3, hr3⟩ := hI.out
      have hB3 := Lib.hid HB3
      have hX3 := Lib.hid BX3
      have hS3 := Lib.hid BS3
      have hO3 := Lib.hid BO3
      have hR3 := Lib.hid hr3
      clear HB3 BX3 BS3 BO3 hr3 hI
      have x0 := hX3.out.cell 0
      have x1 := hX3.out.cell 1
      have x2 := hX3.out.cell 2
      simp only [List.getElem?_toArray, List.getElem?_cons_zero, List.getElem?_cons_succ] at x0 x1 x2
      by_cases hlt : j < n
      · have hjl : j < l.length := by rw [HN.out]; exact hlt
        obtain ⟨bA, oA, rfl, lA, hcA⟩ := (HA.out.next hB3.out) (fun e => by rw [e] at hjl; simp at hjl)
        have gv := hcA j hjl
        have HT0 := Lib.hid (show (l.map fin).take (j + 1) = (l.map fin).take j ++ [fin l[j]] from by
          have hjm : j < (l.map fin).length := by simpa using hjl
          rw [List.take_succ_eq_append_getElem hjm, List.getElem_map])
        clear hcA
        generalize l[j] = z at *
        have hzc : z.cs = [.int .i64 z.kind, .int .i64 z.mant, .int .i64 z.exp, .string z.text, .bool z.truth, .int .i64 z.fault] := rfl
        obtain ⟨k, m, e, t, b, f⟩ := z
        have c0 := gv 0 _ rfl
        have c1 := gv 1 _ rfl
        have c2 := gv 2 _ rfl
        have c3 := gv 3 _ rfl
        have c4 := gv 4 _ rfl
        have c5 := gv 5 _ rfl
        rw [Nat.add_zero] at c0
        clear gv hzc
        have hj0 : (0 : Int) ≤ (j : Int) := by omega
        have hjn : (j : Int) < (n : Int) := by omega
        have wj : IntKind.i64.wrap ((j : Int) + 1) = (j : Int) + 1 := IntWalk.i64_in _ (by omega)
        have bl : Below wr.heap.size wr (wr.alloc (.cells #[.int .i64 k, .int .i64 m, .int .i64 e, .string t, .bool b, .int .i64 f] 41)) := (Below.refl _ wr).alloc (Nat.le_refl _) _
        have hB5 := Lib.hid (hB3.out.trans (bl.mono hB3.out.size))
        have hX5 := Lib.hid (hX3.out.kept (bl.block _ hX3.out.lt))
        have hS5 := Lib.hid (hS3.out.kept (bl.block _ hS3.out.lt))
        have hO5 := Lib.hid (hO3.out.kept (bl.block _ hO3.out.lt))
        have hR5 := Lib.hid (ownsRow_kept hR3.out (w' := wr.alloc (.cells #[.int .i64 k, .int .i64 m, .int .i64 e, .string t, .bool b, .int .i64 f] 41)) (fun g _ hg => bl.block g hg))
        have hY5 := Lib.hid (Blk.new wr 41 #[.int .i64 k, .int .i64 m, .int .i64 e, .string t, .bool b, .int .i64 f])
        have HYX := Lib.hid (show w.heap.size + 1 < wr.heap.size ∧ X < wr.heap.size from ⟨hS3.out.lt, hO3.out.lt⟩)
        have HRlt := Lib.hid (ownsRow_lt hR3.out)
        clear bl hB3 hX3 hS3 hO3 hR3
        by_cases hk : k = 0
        · have HT := Lib.hid (show (l.map fin).take (j + 1) = (l.map fin).take j ++ [⟨1, 0, 0, ⟨#[]⟩, false, 0⟩] by rw [HT0.out]; exact congrArg (fun x => (l.map fin).take j ++ [x]) (if_pos hk))
          have hkb : (k == 0) = true := by simp [hk]
          clear hk HT0
          go_wp2_with fail
          refine (show Calls Tryz.prog 15 #[.agg #[.int .i64 0, .int .i64 0]] (wr.alloc (.cells #[.int .i64 k, .int .i64 m, .int .i64 e, .string t, .bool b, .int .i64 f] 41)) (fun x w' => x = .returned (.agg #[.int .i64 1, .int .i64 0, .int .i64 0, .string ⟨#[]⟩, .bool false, .int .i64 0]) ∧ Below (wr.alloc (.cells #[.int .i64 k, .int .i64 m, .int .i64 e, .string t, .bool b, .int .i64 f] 41)).heap.size (wr.alloc (.cells #[.int .i64 k, .int .i64 m, .int .i64 e, .string t, .bool b, .int .i64 f] 41)) w') from number_c _).mono ?_
          rintro y w3 ⟨rfl, B1⟩
          have hYb : w.heap.size ≤ wr.heap.size := by have := HYX.out; omega
          have hB7 := Lib.hid (hB5.out.trans (B1.mono hB5.out.size))
          have hX7 := Lib.hid (hX5.out.kept (B1.block _ hX5.out.lt))
          have hS7 := Lib.hid (hS5.out.kept (B1.block _ hS5.out.lt))
          have hO7 := Lib.hid (hO5.out.kept (B1.block _ hO5.out.lt))
          have hR7 := Lib.hid (ownsRow_kept hR5.out (w' := w3) (fun g _ hg => B1.block g hg))
          have hY7 := Lib.hid (hY5.out.kept (B1.block _ hY5.out.lt))
          have HRb := Lib.hid (ownsRow_base hR5.out)
          have HRl : Hid (∀ z, (Value.slice G j g).ownBlock = some z → z < wr.heap.size) := Lib.hid HRlt.out
          clear B1 hB5 hX5 hS5 hO5 hR5 hY5
          have hB5 := Lib.hid (below_put6 hB7.out hYb (.int .i64 1) (.int .i64 0) (.int .i64 0) (.string ⟨#[]⟩) (.bool false) (.int .i64 0))
          have hX5 := Lib.hid (blk_put6far hX7.out (show w.heap.size ≠ wr.heap.size by have := HYX.out; omega) (.int .i64 1) (.int .i64 0) (.int .i64 0) (.string ⟨#[]⟩) (.bool false) (.int .i64 0))
          have hS5 := Lib.hid (blk_put6far hS7.out (show w.heap.size + 1 ≠ wr.heap.size by have := HYX.out; omega) (.int .i64 1) (.int .i64 0) (.int .i64 0) (.string ⟨#[]⟩) (.bool false) (.int .i64 0))
          have hO5 := Lib.hid (blk_put6far hO7.out (show X ≠ wr.heap.size by have := HYX.out; omega) (.int .i64 1) (.int .i64 0) (.int .i64 0) (.string ⟨#[]⟩) (.bool false) (.int .i64 0))
          have hY5 := Lib.hid (blk_put6 hY7.out (.int .i64 1) (.int .i64 0) (.int .i64 0) (.string ⟨#[]⟩) (.bool false) (.int .i64 0))
          have hR5 := Lib.hid (ownsRow_kept hR7.out (w' := (put6 w3 wr.heap.size (.int .i64 1) (.int .i64 0) (.int .i64 0) (.string ⟨#[]⟩) (.bool false) (.int .i64 0))) (fun z hz _ => put6_heap _ _ _ _ _ _ _ _ (fun e => by have := HRl.out z hz; omega)))
          have y0 := hY7.out.cell 0
          have y1 := hY7.out.cell 1
          have y2 := hY7.out.cell 2
          have y3 := hY7.out.cell 3
          have y4 := hY7.out.cell 4
          have y5 := hY7.out.cell 5
          simp only [List.getElem?_toArray, List.getElem?_cons_zero, List.getElem?_cons_succ] at y0 y1 y2 y3 y4 y5
          have f0 := hY7.out.frozen 0
          have f1 := hY7.out.frozen 1
          have f2 := hY7.out.frozen 2
          have f3 := hY7.out.frozen 3
          have f4 := hY7.out.frozen 4
          have f5 := hY7.out.frozen 5
          have lY := hY7.out.lt
          have p2 := hO5.out.cell 2
          simp only [List.getElem?_toArray, List.getElem?_cons_zero, List.getElem?_cons_succ] at p2
          unfold put6 at p2
          have z0 := hY5.out.cell 0
          have z1 := hY5.out.cell 1
          have z2 := hY5.out.cell 2
          have z3 := hY5.out.cell 3
          have z4 := hY5.out.cell 4
          have z5 := hY5.out.cell 5
          simp only [List.getElem?_toArray, List.getElem?_cons_zero, List.getElem?_cons_succ] at z0 z1 z2 z3 z4 z5
          unfold put6 at z0 z1 z2 z3 z4 z5
          have HZ : (put6 w3 wr.heap.size (.int .i64 1) (.int .i64 0) (.int .i64 0) (.string ⟨#[]⟩) (.bool false) (.int .i64 0)).heap.size = w3.heap.size := by unfold put6; simp
          clear hB7 hX7 hS7 hO7 hR7 hY7 HRb HRl
          have bl : Below ((put6 w3 wr.heap.size (.int .i64 1) (.int .i64 0) (.int .i64 0) (.string ⟨#[]⟩) (.bool false) (.int .i64 0))).heap.size ((put6 w3 wr.heap.size (.int .i64 1) (.int .i64 0) (.int .i64 0) (.string ⟨#[]⟩) (.bool false) (.int .i64 0))) (((put6 w3 wr.heap.size (.int .i64 1) (.int .i64 0) (.int .i64 0) (.string ⟨#[]⟩) (.bool false) (.int .i64 0))).alloc (.cells #[.int .i64 1, .int .i64 0, .int .i64 0, .string ⟨#[]⟩, .bool false, .int .i64 0] 41)) := (Below.refl _ _).alloc (Nat.le_refl _) _
          have hB6 := Lib.hid (hB5.out.trans (bl.mono hB5.out.size))
          have hX6 := Lib.hid (hX5.out.kept (bl.block _ hX5.out.lt))
          have hS6 := Lib.hid (hS5.out.kept (bl.block _ hS5.out.lt))
          have hO6 := Lib.hid (hO5.out.kept (bl.block _ hO5.out.lt))
          have hR6 := Lib.hid (ownsRow_kept hR5.out (w' := ((put6 w3 wr.heap.size (.int .i64 1) (.int .i64 0) (.int .i64 0) (.string ⟨#[]⟩) (.bool false) (.int .i64 0))).alloc (.cells #[.int .i64 1, .int .i64 0, .int .i64 0, .string ⟨#[]⟩, .bool false, .int .i64 0] 41)) (fun g _ hg => bl.block g hg))
          have HSrc : Hid (∀ ad, some (⟨w3.heap.size, 0, none⟩ : Addr) = some ad → ∀ j u, [.int .i64 1, .int .i64 0, .int .i64 0, .string ⟨#[]⟩, .bool false, .int .i64 0][j]? = some u → (((put6 w3 wr.heap.size (.int .i64 1) (.int .i64 0) (.int .i64 0) (.string ⟨#[]⟩) (.bool false) (.int .i64 0))).alloc (.cells #[.int .i64 1, .int .i64 0, .int .i64 0, .string ⟨#[]⟩, .bool false, .int .i64 0] 41)).cell? (ad.add j) = some u) := fun ad hE j u hj => by
            cases hE
            have := (Blk.new ((put6 w3 wr.heap.size (.int .i64 1) (.int .i64 0) (.int .i64 0) (.string ⟨#[]⟩) (.bool false) (.int .i64 0))) 41 #[.int .i64 1, .int .i64 0, .int .i64 0, .string ⟨#[]⟩, .bool false, .int .i64 0]).cell j
            rw [HZ] at this
            rw [add_at, Nat.zero_add]
            refine this.trans ?_
            simpa using hj
          have HBase := Lib.hid (ownsRow_base hR6.out)
          have HNo := Lib.hid (ownsRow_ne hR6.out hO6.out (by decide))
          have HNs := Lib.hid (ownsRow_ne hR6.out hS6.out (by decide))
          have HNx := Lib.hid (ownsRow_ne hR6.out hX6.out (by decide))
          have HS6 := Lib.hid hB6.out.size
          clear bl hB5 hX5 hS5 hO5 hR5
          go_wp2_with (at_builtin; refine wpList_append_src _ rfl _ _ _ rfl w.heap.size 41 i0 _ 6 56 Tryz.underlying22 hi hz0 hz1 hz2 rfl (by omega) _ j (((l.map fin).take j).flatMap Val.cs) rfl hR6.out (some ⟨w3.heap.size, 0, none⟩) 1 1 [.int .i64 1, .int .i64 0, .int .i64 0, .string ⟨#[]⟩, .bool false, .int .i64 0] rfl (fun e => by cases e) rfl HSrc.out (by simp [Value.oneCell']) (by simp only [maxLen]; omega) (by omega) HS6.out ?_; intro v2 w9 hr9 hg9 hat9; have hR9 := Lib.hid (show w9.ownsRow w.heap.size 41 6 v2 (j + 1) (((l.map fin).take (j + 1)).flatMap Val.cs) by rw [HT.out, List.flatMap_append]; exact hr9); have hB9 := Lib.hid (below_grew hB6.out hg9 (fun g hg => HBase.out g hg)); have hO9 := Lib.hid (hO6.out.kept (hg9.block _ hO6.out.lt (fun e => HNo.out _ e.symm rfl))); have hS9 := Lib.hid (hS6.out.kept (hg9.block _ hS6.out.lt (fun e => HNs.out _ e.symm rfl))); have hX9 := Lib.hid (hX6.out.kept (hg9.block _ hX6.out.lt (fun e => HNx.out _ e.symm rfl))); clear hr9 hg9 hat9; obtain ⟨A2, g2, rfl, hAc⟩ := ownsRow_shape hR9.out; clear hAc; have q2 := hO9.out.cell 2; have q3 := hO9.out.frozen 2; have q4 := hO9.out.lt; simp only [List.getElem?_toArray, List.getElem?_cons_zero, List.getElem?_cons_succ] at q2)
          have hO10 := Lib.hid (show Blk (w9.setCell ⟨X, 2, none⟩ (.slice A2 (j + 1) g2)) X 24 #[.int .i64 r, .int .i64 c, .slice A2 (j + 1) g2] by simpa using hO9.out.store 2 (.slice A2 (j + 1) g2))
          have hS10 := Lib.hid (hS9.out.far (p := ⟨X, 2, none⟩) (show w.heap.size + 1 ≠ X from fun e => by have := HX.out; omega) (.slice A2 (j + 1) g2))
          have hX10 := Lib.hid (hX9.out.far (p := ⟨X, 2, none⟩) (show w.heap.size ≠ X from fun e => by have := HX.out; omega) (.slice A2 (j + 1) g2))
          have hB10 := Lib.hid (hB9.out.setCell (p := ⟨X, 2, none⟩) (show w.heap.size ≤ X by have := HX.out; omega) (.slice A2 (j + 1) g2))
          have hR10 := Lib.hid (ownsRow_kept hR9.out (w' := w9.setCell ⟨X, 2, none⟩ (.slice A2 (j + 1) g2)) (fun g hg _ => Below.heap_setCell _ _ _ _ (ownsRow_ne hR9.out hO9.out (by decide) g hg)))
          exact ⟨⟨j + 1, hlt, by go_num, Lib.hid ⟨hB10.out, hX10.out, hS10.out, _, _, hO10.out, hR10.out⟩⟩, by simp [intOf]; omega⟩
        · have HT := Lib.hid (show (l.map fin).take (j + 1) = (l.map fin).take j ++ [⟨k, m, e, t, b, f⟩] by rw [HT0.out]; exact congrArg (fun x => (l.map fin).take j ++ [x]) (if_neg hk))
          have hkb : (k == 0) = false := by simp [hk]
          clear hk HT0
          have p2 := hO5.out.cell 2
          simp only [List.getElem?_toArray, List.getElem?_cons_zero, List.getElem?_cons_succ] at p2
          have HZ : (wr.alloc (.cells #[.int .i64 k, .int .i64 m, .int .i64 e, .string t, .bool b, .int .i64 f] 41)).heap.size = wr.heap.size + 1 := by simp
          have bl : Below (wr.alloc (.cells #[.int .i64 k, .int .i64 m, .int .i64 e, .string t, .bool b, .int .i64 f] 41)).heap.size (wr.alloc (.cells #[.int .i64 k, .int .i64 m, .int .i64 e, .string t, .bool b, .int .i64 f] 41)) ((wr.alloc (.cells #[.int .i64 k, .int .i64 m, .int .i64 e, .string t, .bool b, .int .i64 f] 41)).alloc (.cells #[.int .i64 k, .int .i64 m, .int .i64 e, .string t, .bool b, .int .i64 f] 41)) := (Below.refl _ _).alloc (Nat.le_refl _) _
          have hB6 := Lib.hid (hB5.out.trans (bl.mono hB5.out.size))
          have hX6 := Lib.hid (hX5.out.kept (bl.block _ hX5.out.lt))
          have hS6 := Lib.hid (hS5.out.kept (bl.block _ hS5.out.lt))
          have hO6 := Lib.hid (hO5.out.kept (bl.block _ hO5.out.lt))
          have hR6 := Lib.hid (ownsRow_kept hR5.out (w' := (wr.alloc (.cells #[.int .i64 k, .int .i64 m, .int .i64 e, .string t, .bool b, .int .i64 f] 41)).alloc (.cells #[.int .i64 k, .int .i64 m, .int .i64 e, .string t, .bool b, .int .i64 f] 41)) (fun g _ hg => bl.block g hg))
          have HSrc : Hid (∀ ad, some (⟨wr.heap.size + 1, 0, none⟩ : Addr) = some ad → ∀ j u, [.int .i64 k, .int .i64 m, .int .i64 e, .string t, .bool b, .int .i64 f][j]? = some u → ((wr.alloc (.cells #[.int .i64 k, .int .i64 m, .int .i64 e, .string t, .bool b, .int .i64 f] 41)).alloc (.cells #[.int .i64 k, .int .i64 m, .int .i64 e, .string t, .bool b, .int .i64 f] 41)).cell? (ad.add j) = some u) := fun ad hE j u hj => by
            cases hE
            have := (Blk.new (wr.alloc (.cells #[.int .i64 k, .int .i64 m, .int .i64 e, .string t, .bool b, .int .i64 f] 41)) 41 #[.int .i64 k, .int .i64 m, .int .i64 e, .string t, .bool b, .int .i64 f]).cell j
            rw [HZ] at this
            rw [add_at, Nat.zero_add]
            refine this.trans ?_
            simpa using hj
          have HBase := Lib.hid (ownsRow_base hR6.out)
          have HNo := Lib.hid (ownsRow_ne hR6.out hO6.out (by decide))
          have HNs := Lib.hid (ownsRow_ne hR6.out hS6.out (by decide))
          have HNx := Lib.hid (ownsRow_ne hR6.out hX6.out (by decide))
          have HS6 := Lib.hid hB6.out.size
          clear bl hB5 hX5 hS5 hO5 hR5
          go_wp2_with (at_builtin; refine wpList_append_src _ rfl _ _ _ rfl w.heap.size 41 i0 _ 6 56 Tryz.underlying22 hi hz0 hz1 hz2 rfl (by omega) _ j (((l.map fin).take j).flatMap Val.cs) rfl hR6.out (some ⟨wr.heap.size + 1, 0, none⟩) 1 1 [.int .i64 k, .int .i64 m, .int .i64 e, .string t, .bool b, .int .i64 f] rfl (fun e => by cases e) rfl HSrc.out (by simp [Value.oneCell']) (by simp only [maxLen]; omega) (by omega) HS6.out ?_; intro v2 w9 hr9 hg9 hat9; have hR9 := Lib.hid (show w9.ownsRow w.heap.size 41 6 v2 (j + 1) (((l.map fin).take (j + 1)).flatMap Val.cs) by rw [HT.out, List.flatMap_append]; exact hr9); have hB9 := Lib.hid (below_grew hB6.out hg9 (fun g hg => HBase.out g hg)); have hO9 := Lib.hid (hO6.out.kept (hg9.block _ hO6.out.lt (fun e => HNo.out _ e.symm rfl))); have hS9 := Lib.hid (hS6.out.kept (hg9.block _ hS6.out.lt (fun e => HNs.out _ e.symm rfl))); have hX9 := Lib.hid (hX6.out.kept (hg9.block _ hX6.out.lt (fun e => HNx.out _ e.symm rfl))); clear hr9 hg9 hat9; obtain ⟨A2, g2, rfl, hAc⟩ := ownsRow_shape hR9.out; clear hAc; have q2 := hO9.out.cell 2; have q3 := hO9.out.frozen 2; have q4 := hO9.out.lt; simp only [List.getElem?_toArray, List.getElem?_cons_zero, List.getElem?_cons_succ] at q2)
          have hO10 := Lib.hid (show Blk (w9.setCell ⟨X, 2, none⟩ (.slice A2 (j + 1) g2)) X 24 #[.int .i64 r, .int .i64 c, .slice A2 (j + 1) g2] by simpa using hO9.out.store 2 (.slice A2 (j + 1) g2))
          have hS10 := Lib.hid (hS9.out.far (p := ⟨X, 2, none⟩) (show w.heap.size + 1 ≠ X from fun e => by have := HX.out; omega) (.slice A2 (j + 1) g2))
          have hX10 := Lib.hid (hX9.out.far (p := ⟨X, 2, none⟩) (show w.heap.size ≠ X from fun e => by have := HX.out; omega) (.slice A2 (j + 1) g2))
          have hB10 := Lib.hid (hB9.out.setCell (p := ⟨X, 2, none⟩) (show w.heap.size ≤ X by have := HX.out; omega) (.slice A2 (j + 1) g2))
          have hR10 := Lib.hid (ownsRow_kept hR9.out (w' := w9.setCell ⟨X, 2, none⟩ (.slice A2 (j + 1) g2)) (fun g hg _ => Below.heap_setCell _ _ _ _ (ownsRow_ne hR9.out hO9.out (by decide) g hg)))
          exact ⟨⟨j + 1, hlt, by go_num, Lib.hid ⟨hB10.out, hX10.out, hS10.out, _, _, hO10.out, hR10.out⟩⟩, by simp [intOf]; omega⟩
      · obtain rfl : j = n := by omega
        have hjj : decide ((j : Int) < (j : Int)) = false := decide_eq_false (by omega)
        have HF := Lib.hid (manyR_of_row (f := Val.cs) (k := 6) (fun _ => rfl) (by omega) hR3.out)
        have HBase := Lib.hid (ownsRow_base hR3.out)
        have HNs := Lib.hid (ownsRow_ne hR3.out hS3.out (by decide))
        have HFr := Lib.hid (show ∀ z, G = some z → w.heap.size ≤ z.block ∧ z.block ≠ w.heap.size + 1 from fun z hz => by
          subst hz
          rcases hR3.out.2 with ⟨hv, _⟩ | ⟨g, cap, cur, hv, _⟩
          · cases hv
          · cases hv
            exact ⟨HBase.out g rfl, HNs.out g rfl⟩)
        clear hR3
        have o0 := hO3.out.cell 0
        have o1 := hO3.out.cell 1
        have o2 := hO3.out.cell 2
        simp only [List.getElem?_toArray, List.getElem?_cons_zero, List.getElem?_cons_succ] at o0 o1 o2
        have e0 := hS3.out.cell 0
        have e1 := hS3.out.cell 1
        have e2 := hS3.out.cell 2
        simp only [List.getElem?_toArray, List.getElem?_cons_zero, List.getElem?_cons_succ] at e0 e1 e2
        have f0 := hS3.out.frozen 0
        have f1 := hS3.out.frozen 1
        have f2 := hS3.out.frozen 2
        have lX := hS3.out.lt
        go_wp2_with fail
        change bodyPost _ _ _ _ _ (put3 wr (w.heap.size + 1) (.int .i64 r) (.int .i64 c) (.slice G j g))
        have HE := Lib.hid (show (l.map fin).take j = l.map fin from List.take_of_length_le (by rw [List.length_map, HN.out]; exact Nat.le_refl _))
        have HM := Lib.hid (manyR_put3 (X := w.heap.size + 1) (show ManyR Val.cs 6 wr G (l.map fin) by have := HF.out.2; rwa [HE.out] at this) (fun z hz => (HFr.out z hz).2) (.int .i64 r) (.int .i64 c) (.slice G j g))
        have hX4 := Lib.hid (blk_put3 hS3.out (.int .i64 r) (.int .i64 c) (.slice G j g))
        have hB4 := below_put3 hB3.out (Nat.le_succ _) (.int .i64 r) (.int .i64 c) (.slice G j g)
        clear o0 o1 o2 e0 e1 e2 f0 f1 f2 lX x0 x1 x2
        generalize put3 wr (w.heap.size + 1) (.int .i64 r) (.int .i64 c) (.slice G j g) = W2 at *
        have d0 := hX4.out.cell 0
        have d1 := hX4.out.cell 1
        have d2 := hX4.out.cell 2
        simp only [List.getElem?_toArray, List.getElem?_cons_zero, List.getElem?_cons_succ] at d0 d1 d2
        exact bodyPost_ret (v := .agg #[.int .i64 r, .int .i64 c, .slice G j g]) (by simp [results, Tryz.f7, go_sem, d0, d1, d2]) rfl ⟨fun _ => ⟨_, _, _, rfl, by rw [List.length_map]; exact HN.out, HM.out, fun z hz => (HFr.out z hz).1, hB4⟩, fun h => absurd HRA.out h⟩
end Go.Proofs.YtccnkkffeokgcaaGreatDoor
