/-
  counterpaneref30.Permutation: its contract. Condition: the rows and keys can be read; at most 60 rows.
-/
import Derived.Test.YtifdpcjfjoekmaaD2
import Derived.Test.YtifdpcjfjoekmaaF2
import Derived.Test.YtifdpcjfjoekmaaG1
import Derived.Test.YtifdpcjfjoekmaaG2
namespace Go.Proofs.Ytifdpcjfjoekmaa
open Go.RowKit

def InsStop (cf : Nat → Nat → Int) (d : List Nat) (i k : Nat) : Prop := k = 0 ∨ (k ≤ i ∧ ¬ cf i (D d (k - 1)) < 0)
def RPermP (w : World) (n : Nat) (cf : Nat → Nat → Int) (e : Ending) (w' : World) : Prop := ∃ v d, e = .returned v ∧ Below w.heap.size w w' ∧ IntSl w' v d ∧ Sorted cf n d
theorem bs0_op {o : Oper} (h : o.op = .buildSlice 26 0 #[]) (F : Act) (w : World) : (execOp F.eval o).run Try.prog w = .ok (.value (.slice (some ⟨w.heap.size, 0, none⟩) 0 0)) (w.alloc (.cells #[] 3)) := by
  unfold execOp
  simp only [h, Sem.run_bind, List.map_toArray, List.map_nil, Try.bs0_26]
  rfl
theorem bs1_op {o : Oper} {k : Tmp} (h : o.op = .buildSlice 26 1 #[(0, .tmp k)]) (x : Int) (F : Act) (w : World) (hF : F.eval (.tmp k) = .int .i64 x) :
    (execOp F.eval o).run Try.prog w = .ok (.value (.slice (some ⟨w.heap.size, 0, none⟩) 1 1)) (w.alloc (.cells [.int .i64 x].toArray 3)) := by
  unfold execOp
  simp only [h, Sem.run_bind, List.map_toArray, List.map_cons, List.map_nil, hF, bs1_26]
  rfl
theorem take_cells {w : World} {A : Option Addr} {l : List Nat} (h : IntsR w A l) (k : Nat) : ∀ ad, A = some ad → ∀ j u, (intsL (l.take k))[j]? = some u → w.cell? (ad.add j) = some u := fun ad hA j u hj => by
  refine intsR_cells h ad hA j u ?_
  simp only [intsL, List.map_take] at hj
  rw [List.getElem?_take] at hj
  split at hj
  · exact hj
  · cases hj
theorem drop_cells {w : World} {g : Nat} {l : List Nat} (h : IntsR w (some ⟨g, 0, none⟩) l) (k : Nat) : ∀ j u, (intsL (l.drop k))[j]? = some u → w.cell? ⟨g, k + j, none⟩ = some u := fun j u hj => by
  simp only [intsL, List.map_drop] at hj
  rw [List.getElem?_drop] at hj
  have := intsR_cells h _ rfl (k + j) u hj
  rw [add_at, Nat.zero_add] at this
  exact this
theorem Sorted.nil (cf : Nat → Nat → Int) : Sorted cf 0 [] := ⟨List.Perm.refl _, fun p q _ h1 h2 => by omega⟩
set_option maxRecDepth 100000 in
set_option maxHeartbeats 2000000 in
theorem rperm_c (A K : Option Addr) (n ca q ck : Nat) (rs : List RowD) (ks : List KeyD) (w : World) (hA : RowsR w A rs) (hK : ManyR keyCells 2 w K ks) (hn : rs.length = n) (hq : ks.length = q) (h1 : n ≤ 60) (h2 : q ≤ 1000000) (hok : ∀ r ∈ rs, RowOk r.l) :
    Calls Try.prog 11 #[.slice A n ca, .slice K q ck] w (RPermP w n (cmpAt rs ks)) := by
  obtain ⟨i0, hi, hz0, hz1, hz2⟩ := info_parts Try.info3
  have HA := Lib.hid hA
  have HK := Lib.hid hK
  have HN := Lib.hid hn
  have HQ := Lib.hid hq
  have HO := Lib.hid hok
  have HRows := Lib.hid (fun W (hW : Below w.heap.size w W) => hA.next hW)
  have HOrd := Lib.hid (ord_of (pre_cmpK ks) (fun i => rowAt rs i) n)
  clear hA hK hn hq hok
  go_enter Try.func11, Try.ntmps11
  go_wp2_with fail
  go_loopw [5, 6] (fun v iv wr => ∃ (i : Nat) (d : List Nat), i ≤ n ∧ iv = .int .i64 i ∧ Hid (Below w.heap.size w wr) ∧ Hid (wr.ownsRow w.heap.size 3 1 v i (intsL d)) ∧ Hid (Sorted (cmpAt rs ks) i d)) (fun _ iv _ => n - (intOf iv).toNat)
  case atStart => exact ⟨0, [], Nat.zero_le _, rfl, Lib.hid (Below.refl _ _), Lib.hid (World.ownsRow_nil _ _ _ _), Lib.hid (Sorted.nil _)⟩
  case round =>
    obtain ⟨i, d, hi', rfl, hb, hr, hs⟩ := hrel
    obtain ⟨G, cG, rfl, hs5⟩ := ownsRow_shape hr.out
    by_cases hlt : i < n
    · have HS5 := Lib.hid hs5
      clear hs5
      have hi0 : (0 : Int) ≤ (i : Int) := by omega
      have hin : (i : Int) < (n : Int) := by omega
      have wi : IntKind.i64.wrap ((i : Int) + 1) = (i : Int) + 1 := IntWalk.i64_in _ (by omega)
      go_wp2_with fail
      generalize wr = W1 at *
      go_loopw [7] (fun kv wr => ∃ k : Nat, k ≤ i ∧ kv = .int .i64 k ∧ Hid (∀ j, k ≤ j → j < i → cmpAt rs ks i (D d j) < 0) ∧ Hid (Below W1.heap.size W1 wr)) (fun kv _ => (intOf kv).toNat)
      case atStart => exact ⟨i, Nat.le_refl _, rfl, Lib.hid (fun j h1 h2 => by omega), Lib.hid (Below.refl _ _)⟩
      case round =>
        obtain ⟨k, hk, rfl, hgt, hb2⟩ := hrel
        by_cases hk0 : k = 0
        · subst hk0
          have h00 : ¬ (0 : Int) < (0 : Int) := by omega
          have HC : AllCells wr.drew [] := trivial
          go_wp2_with fail
          refine region_free _ [0, 1, 2, 3, 4, 5, 6, 7, 8, 9, 10, 11, 12, 13, 14, 15] 2 (by kernel_rfl) (by kernel_rfl) (by kernel_rfl) (by kernel_rfl) (by kernel_rfl) (fun _ _ _ _ _ h => h) HC ?_
          intro hne hu
          simp only [AllCells] at hu
          simp only [pick, List.take_succ_cons, List.take_zero, List.drop_succ_cons, List.drop_zero, List.cons_append, List.nil_append]
          repeat (go_big_quiet_step (fail))
          refine wpQuiet_nil ?_
          clear hne hu
          refine anyN_oneL 16 (by kernel_rfl) ?_
          simp only [List.take_succ_cons, List.take_zero, List.drop_succ_cons, List.drop_zero]
          go_wp2_with fail
          refine And.intro (fun _ => HC) ?_
          refine anyN_more [17] 0 (by kernel_rfl) (by kernel_rfl) (by kernel_rfl) (by kernel_rfl) (fun _ _ _ _ _ h => h) HC ?_
          intro hne hu
          simp only [AllCells] at hu
          simp only [pick, List.take_succ_cons, List.take_zero, List.drop_succ_cons, List.drop_zero, List.cons_append, List.nil_append]
          repeat (go_big_quiet_step (fail))
          refine wpQuiet_nil ?_
          clear hne hu
          refine ⟨by kernel_rfl, ?_⟩
          clear HC
          have HLE : Hid (InsStop (cmpAt rs ks) d i 0) := Lib.hid (.inl rfl)
          have HBW := Lib.hid (show Below W1.heap.size W1 wr.drew from hb2.out.drew)
          go_wp2_with fail
          generalize wr.drew = W2 at *
          have HN1 : Hid ((G = none → (0 : Nat) = 0 ∧ cG = 0) ∧ ∀ ad, G = some ad → ∀ j u, (intsL (d.take 0))[j]? = some u → W2.drew.cell? (ad.add j) = some u) := by
            refine Lib.hid ⟨fun e => ?_, fun ad _ j u hj => ?_⟩
            · rcases HS5.out with ⟨_, h5, h6⟩ | ⟨g, h5, _⟩
              · exact ⟨rfl, h6⟩
              · rw [h5] at e; cases e
            · rw [List.take_zero] at hj
              cases hj
          have HN2 : Hid ((G = none → i = 0 ∧ cG = 0) ∧ ∀ ad, G = some ad → ∀ j u, (intsL (d.drop 0))[j]? = some u → W2.drew.cell? (ad.add j) = some u) := by
            refine Lib.hid ⟨fun e => ?_, ?_⟩
            · rcases HS5.out with ⟨_, h5, h6⟩ | ⟨g, h5, _⟩
              · exact ⟨h5, h6⟩
              · rw [h5] at e; cases e
            · rw [List.drop_zero]
              exact intsR_cells ((intsR_of_row hr.out).2.2.2.next HBW.out.drew)
          have HBw2 := Lib.hid (hb.out.trans (HBW.out.mono hb.out.size))
          have HKl := Lib.hid (show 0 ≤ i by omega)
          have HDl := Lib.hid hs.out.length
          have HIns := Lib.hid (ins_sorted HOrd.out hlt hs.out hgt.out HLE.out)
          have HC : AllCells W2.drew [] := trivial
          refine region_free _ [1, 2, 3, 5, 8, 9, 10] 6 (by kernel_rfl) (by kernel_rfl) (by kernel_rfl) (by kernel_rfl) (by kernel_rfl) (fun _ _ _ _ _ h => h) HC ?_
          intro hne hu
          simp only [AllCells] at hu
          simp only [pick, List.take_succ_cons, List.take_zero, List.drop_succ_cons, List.drop_zero, List.cons_append, List.nil_append]
          repeat (go_big_quiet_step (fail))
          refine wpQuiet_nil ?_
          clear hne hu
          refine app3 [] 26 3 i0 _ 1 8 Try.underlying26 hi hz0 hz1 hz2 rfl (by omega) (by omega) 0 4 6 7 11 36 40 42 43 47 39 46 (.tmp 41) _ _ _ _ _ rfl rfl rfl rfl rfl rfl rfl rfl rfl rfl rfl rfl rfl rfl rfl rfl rfl rfl [.int .i64 (i : Int)] (.int .i64 (i : Int)) (bs0_op rfl) (bs1_op rfl (i : Int)) (by decide) (by simp) (by simp) (by decide) (by kernel_rfl) (by kernel_rfl) (by kernel_rfl) (by kernel_rfl) (by kernel_rfl) (by kernel_rfl) (by kernel_rfl) trivial _ _ _ _ _ _ (intsL (d.take 0)) (intsL (d.drop 0)) rfl HN1.out.1 (by have := HDl.out; have := HKl.out; simp [intsL] <;> omega) HN1.out.2 (intsL_one _) rfl HN2.out.1 (by have := HDl.out; have := HKl.out; simp [intsL] <;> omega) HN2.out.2 (intsL_one _) rfl rfl (fun u hu => by rw [List.mem_singleton.1 hu]; rfl) (by have := HKl.out; omega) ?_
          intro v1 v8 v10 v11 v18 wk hrow hbel
          have hrow' : wk.ownsRow w.heap.size 3 1 v18 (i + 1) (intsL (insAt d 0 i)) := by
            have e : intsL (insAt d 0 i) = intsL (d.take 0) ++ [.int .i64 (i : Int)] ++ intsL (d.drop 0) := by simp [insAt, intsL]
            have e2 : 0 + 1 + i = i + 1 := by have := HKl.out; omega
            rw [e]
            rw [e2] at hrow
            exact ownsRow_lower hrow (HBw2.out.drew.size)
          have HRow := Lib.hid hrow'
          have HBk := Lib.hid (HBw2.out.drew.trans (hbel.mono HBw2.out.size))
          clear hrow hrow' hbel
          refine anyN_oneL 12 (by kernel_rfl) ?_
          simp only [List.take_succ_cons, List.take_zero, List.drop_succ_cons, List.drop_zero, Act.put, List.setIfInBounds_toArray, List.set_cons_succ, List.set_cons_zero]
          skip
          go_wp2_with fail
          refine And.intro (by first | exact trivial | exact fun _ => trivial) ?_
          refine ⟨by kernel_rfl, ?_⟩
          go_wp2_with fail
          exact ⟨⟨i + 1, insAt d 0 i, by omega, by go_num, HBk, HRow, HIns⟩, by simp [intOf] <;> omega⟩
        · obtain ⟨m, rfl⟩ : ∃ m, k = m + 1 := ⟨k - 1, by omega⟩
          have hpos : (0 : Int) < (m : Int) + 1 := by omega
          have hposN : 0 < m + 1 := by omega
          have hmi : m < i := by omega
          have hmi' : (m : Int) < (i : Int) := by omega
          have hm0 : (0 : Int) ≤ (m : Int) := by omega
          obtain ⟨gG, rfl⟩ : ∃ g, G = some ⟨g, 0, none⟩ := by
            rcases HS5.out with ⟨_, h5, _⟩ | ⟨g, h5, _⟩
            · omega
            · exact ⟨g, h5⟩
          have HCap : Hid (i ≤ cG ∧ cG ≤ maxLen) := Lib.hid (by
            obtain ⟨h1, h2, h3, _⟩ := intsR_of_row hr.out
            exact ⟨h2, h3⟩)
          have hcap1 : i ≤ cG := HCap.out.1
          have hcap2 : cG ≤ 9223372036854775807 := Nat.le_trans HCap.out.2 (by simp [maxLen])
          have hil : i < rs.length := by rw [HN.out]; exact hlt
          have hyl := hs.out.lt hmi
          obtain ⟨y, hy⟩ : ∃ y, D d m = y := ⟨_, rfl⟩
          have HY := Lib.hid hy
          rw [hy] at hyl
          have hyr : y < rs.length := by omega
          have hyn : (y : Int) < (n : Int) := by omega
          have hy0 : (0 : Int) ≤ (y : Int) := by omega
          have HBw := Lib.hid (hb.out.trans (hb2.out.mono hb.out.size))
          have HR1 := Lib.hid (HRows.out wr HBw.out)
          obtain ⟨bA, oA, rfl, g0⟩ := HR1.out.get hil
          obtain ⟨_, _, e0, g1⟩ := HR1.out.get hyr
          cases e0
          have hro1 := Lib.hid (rowAt_get hil)
          have hro2 := Lib.hid (rowAt_get hyr)
          have hm1 := Lib.hid (List.getElem_mem hil)
          have hm2 := Lib.hid (List.getElem_mem hyr)
          generalize rs[i] = r1 at *
          generalize rs[y] = r2 at *
          have HL1 := Lib.hid (HR1.out.len r1 hm1.out)
          have HL2 := Lib.hid (HR1.out.len r2 hm2.out)
          have HAh := Lib.hid (fun W (hW : Below w.heap.size w W) => ahead_c r1.A r2.A K r1.n r1.c r2.n r2.c q ck r1.l r2.l ks W ((HRows.out W hW).row r1 hm1.out) ((HRows.out W hW).row r2 hm2.out) (HK.out.next hW) HL1.out.1 HL2.out.1 HQ.out (HO.out r1 hm1.out) (HO.out r2 hm2.out) HL1.out.2 HL2.out.2 h2)
          have HCmp : Hid (cmpAt rs ks i y = cmpK r1.l r2.l ks) := Lib.hid (by unfold cmpAt; rw [hro1.out, hro2.out])
          have p0 : wr.cell? ⟨gG, m, none⟩ = some (.int .i64 (y : Int)) := by
            obtain ⟨h3, _, _, h4⟩ := intsR_of_row hr.out
            obtain ⟨b', o', e', _, hc'⟩ := (h4.next hb2.out) (fun e => by rw [e] at h3; simp at h3; omega)
            cases e'
            have := hc' m y (by rw [← HY.out]; exact D_get (by omega))
            rw [Nat.zero_add] at this
            exact this
          obtain ⟨B1, n1, c1, l1⟩ := r1
          obtain ⟨B2, n2, c2, l2⟩ := r2
          dsimp only at HAh HCmp g0 g1
          obtain ⟨bb, hbb⟩ : ∃ bb, decide (cmpK l1 l2 ks < 0) = bb := ⟨_, rfl⟩
          have HBB := Lib.hid hbb
          rw [hbb] at HAh
          have HC : AllCells wr.drew [(⟨gG, m, none⟩, .int .i64 (y : Int)), (⟨bA, oA + i, none⟩, .slice B1 n1 c1), (⟨bA, oA + y, none⟩, .slice B2 n2 c2)] := ⟨p0, g0, g1, trivial⟩
          clear hbb hy p0 g0 g1
          go_wp2_with fail
          refine region_free _ [0, 1, 2, 3, 4, 5, 6, 7, 8, 9, 10, 11, 12, 13, 14, 15] 2 (by kernel_rfl) (by kernel_rfl) (by kernel_rfl) (by kernel_rfl) (by kernel_rfl) (fun _ _ _ _ _ h => h) HC ?_
          intro hne hu
          simp only [AllCells] at hu
          simp only [pick, List.take_succ_cons, List.take_zero, List.drop_succ_cons, List.drop_zero, List.cons_append, List.nil_append]
          repeat (go_big_quiet_step (fail))
          refine wpQuiet_nil ?_
          clear hne hu
          refine anyN_oneL 16 (by kernel_rfl) ?_
          simp only [List.take_succ_cons, List.take_zero, List.drop_succ_cons, List.drop_zero]
          go_wp2_with fail
          refine (HAh.out _ HBw.out.drew).mono ?_
          rintro e W7 ⟨rfl, b7⟩
          have HC7 := AllCells.below HC b7
          have HBW := Lib.hid (show Below W1.heap.size W1 W7 from hb2.out.drew.trans (b7.mono hb2.out.size))
          clear b7 HC
          go_wp2_with fail
          refine And.intro (fun _ => HC7) ?_
          refine anyN_more [17] 0 (by kernel_rfl) (by kernel_rfl) (by kernel_rfl) (by kernel_rfl) (fun _ _ _ _ _ h => h) HC7 ?_
          intro hne hu
          simp only [AllCells] at hu
          simp only [pick, List.take_succ_cons, List.take_zero, List.drop_succ_cons, List.drop_zero, List.cons_append, List.nil_append]
          repeat (go_big_quiet_step (fail))
          refine wpQuiet_nil ?_
          clear hne hu
          refine ⟨by kernel_rfl, ?_⟩
          clear HC7
          cases bb
          · have HLE : Hid (InsStop (cmpAt rs ks) d i (m + 1)) := Lib.hid (.inr ⟨hk, by
              rw [show m + 1 - 1 = m by omega, HY.out, HCmp.out]
              exact of_decide_eq_false HBB.out⟩)
            go_wp2_with fail
            generalize W7 = W2 at *
            have HN1 : Hid ((some (⟨gG, 0, none⟩ : Addr) = none → m + 1 = 0 ∧ cG = 0) ∧ ∀ ad, some (⟨gG, 0, none⟩ : Addr) = some ad → ∀ j u, (intsL (d.take (m + 1)))[j]? = some u → W2.drew.cell? (ad.add j) = some u) := Lib.hid ⟨(fun e => by cases e), take_cells ((intsR_of_row hr.out).2.2.2.next HBW.out.drew) (m + 1)⟩
            have HN2 : Hid (((if cG = m + 1 then some (⟨gG, 0, none⟩ : Addr) else some ⟨gG, m + 1, none⟩) = none → i - (m + 1) = 0 ∧ cG - (m + 1) = 0) ∧ ∀ ad, (if cG = m + 1 then some (⟨gG, 0, none⟩ : Addr) else some ⟨gG, m + 1, none⟩) = some ad → ∀ j u, (intsL (d.drop (m + 1)))[j]? = some u → W2.drew.cell? (ad.add j) = some u) := by
              refine Lib.hid ⟨fun e => ?_, fun ad e j u hj => ?_⟩
              · split at e <;> cases e
              · have hd := hs.out.length
                split at e
                · rw [List.drop_of_length_le (by omega)] at hj
                  cases hj
                · cases e
                  rw [add_at]
                  exact drop_cells ((intsR_of_row hr.out).2.2.2.next HBW.out.drew) (m + 1) j u hj
            have HBw2 := Lib.hid (hb.out.trans (HBW.out.mono hb.out.size))
            have HKl := Lib.hid (show (m + 1) ≤ i by omega)
            have HDl := Lib.hid hs.out.length
            have HIns := Lib.hid (ins_sorted HOrd.out hlt hs.out hgt.out HLE.out)
            have HC : AllCells W2.drew [] := trivial
            refine region_free _ [1, 2, 3, 5, 8, 9, 10] 6 (by kernel_rfl) (by kernel_rfl) (by kernel_rfl) (by kernel_rfl) (by kernel_rfl) (fun _ _ _ _ _ h => h) HC ?_
            intro hne hu
            simp only [AllCells] at hu
            simp only [pick, List.take_succ_cons, List.take_zero, List.drop_succ_cons, List.drop_zero, List.cons_append, List.nil_append]
            repeat (go_big_quiet_step (fail))
            refine wpQuiet_nil ?_
            clear hne hu
            refine app3 [] 26 3 i0 _ 1 8 Try.underlying26 hi hz0 hz1 hz2 rfl (by omega) (by omega) 0 4 6 7 11 36 40 42 43 47 39 46 (.tmp 41) _ _ _ _ _ rfl rfl rfl rfl rfl rfl rfl rfl rfl rfl rfl rfl rfl rfl rfl rfl rfl rfl [.int .i64 (i : Int)] (.int .i64 (i : Int)) (bs0_op rfl) (bs1_op rfl (i : Int)) (by decide) (by simp) (by simp) (by decide) (by kernel_rfl) (by kernel_rfl) (by kernel_rfl) (by kernel_rfl) (by kernel_rfl) (by kernel_rfl) (by kernel_rfl) trivial _ _ _ _ _ _ (intsL (d.take (m + 1))) (intsL (d.drop (m + 1))) rfl HN1.out.1 (by have := HDl.out; have := HKl.out; simp [intsL] <;> omega) HN1.out.2 (intsL_one _) rfl HN2.out.1 (by have := HDl.out; have := HKl.out; simp [intsL] <;> omega) HN2.out.2 (intsL_one _) rfl rfl (fun u hu => by rw [List.mem_singleton.1 hu]; rfl) (by have := HKl.out; omega) ?_
            intro v1 v8 v10 v11 v18 wk hrow hbel
            have hrow' : wk.ownsRow w.heap.size 3 1 v18 (i + 1) (intsL (insAt d (m + 1) i)) := by
              have e : intsL (insAt d (m + 1) i) = intsL (d.take (m + 1)) ++ [.int .i64 (i : Int)] ++ intsL (d.drop (m + 1)) := by simp [insAt, intsL]
              have e2 : m + 1 + 1 + (i - (m + 1)) = i + 1 := by have := HKl.out; omega
              rw [e]
              rw [e2] at hrow
              exact ownsRow_lower hrow (HBw2.out.drew.size)
            have HRow := Lib.hid hrow'
            have HBk := Lib.hid (HBw2.out.drew.trans (hbel.mono HBw2.out.size))
            clear hrow hrow' hbel
            refine anyN_oneL 12 (by kernel_rfl) ?_
            simp only [List.take_succ_cons, List.take_zero, List.drop_succ_cons, List.drop_zero, Act.put, List.setIfInBounds_toArray, List.set_cons_succ, List.set_cons_zero]
            generalize (if cG = m + 1 then some (⟨gG, 0, none⟩ : Addr) else some ⟨gG, m + 1, none⟩) = AX
            go_wp2_with fail
            refine And.intro (by first | exact trivial | exact fun _ => trivial) ?_
            refine ⟨by kernel_rfl, ?_⟩
            go_wp2_with fail
            exact ⟨⟨i + 1, insAt d (m + 1) i, by omega, by go_num, HBk, HRow, HIns⟩, by simp [intOf] <;> omega⟩
          · go_wp2_with fail
            refine ⟨⟨m, by omega, by go_num, Lib.hid (fun j h1 h2 => ?_), HBW⟩, by simp [intOf] <;> omega⟩
            by_cases hjm : j = m
            · subst hjm
              rw [HY.out, HCmp.out]
              exact of_decide_eq_true HBB.out
            · exact hgt.out j (by omega) h2
    · obtain rfl : i = n := by omega
      have hjj : decide ((i : Int) < (i : Int)) = false := decide_eq_false (by omega)
      go_wp2_with fail
      go_ret
      exact ⟨_, d, rfl, hb.out, intSl_of_row hr.out, hs.out⟩
end Go.Proofs.Ytifdpcjfjoekmaa
