/-
  The walk of funcs.All: all names, rising, for every loop body that leaves foreign blocks alone. No condition.
-/
import Derived.Test.YtdmbppgogdkpdaaGreatDoorC7
import Derived.Test.YtdmbppgogdkpdaaGreatDoorG1
import Derived.Test.YtdmbppgogdkpdaaGreatDoorGQ
namespace Go.Proofs.YtdmbppgogdkpdaaGreatDoor
open Go.RowKit Go.Maps Go.Sort Go.Shelf
attribute [local go_sem] Oper.semAt_some
def sv (x : List UInt8) : Array Value := #[.string ⟨x.toArray⟩]
/-- The list that the walk goes through lies in a foreign block. -/
def It1 (Fo : World → Nat → Prop) (W : World) (A : Option Addr) (L : List (List UInt8)) : Prop :=
  L ≠ [] → ∃ b off, A = some ⟨b, off, none⟩ ∧ Fo W b ∧ (∃ cs e m, W.heap[b]? = some (.cells cs e m)) ∧ ∀ i (h : i < L.length), W.cell? ⟨b, off + i, none⟩ = some (.string ⟨L[i].toArray⟩)
theorem It1.keep {Fo : World → Nat → Prop} {W W' : World} {A : Option Addr} {L : List (List UInt8)} (h : It1 Fo W A L) (k : KF Fo W W') : It1 Fo W' A L := fun hl => by
  obtain ⟨b, off, hA, hf, ⟨cs, e, m, hb⟩, hc⟩ := h hl
  obtain ⟨k1, k2⟩ := k b cs e m hb hf
  refine ⟨b, off, hA, k2, ⟨cs, e, m, k1.trans hb⟩, fun i hi => ?_⟩
  rw [World.cell?_of_block (w := W) (a := ⟨b, off + i, none⟩) k1]
  exact hc i hi
theorem it_of_row {Fo : World → Nat → Prop} {W : World} {S n c : Nat} {A : Option Addr} {L : List (List UInt8)} (h : W.ownsRow S 9 1 (.slice A n c) n (L.map encStr)) (hF : ∀ k, S ≤ k → Fo W k) : It1 Fo W A L := by
  intro hl
  rcases h.2 with ⟨_, hz⟩ | ⟨g, cap, cur, hv, hbase, hb, h1, h2, h3, h4⟩
  · have := h.1
    rw [hz] at this
    simp at this
    exact absurd this hl
  · cases hv
    refine ⟨g, 0, rfl, hF g hbase, ⟨cur, 9, (0, 0), hb⟩, fun i hi => ?_⟩
    rw [Nat.zero_add]
    exact row_at h (by rw [List.getElem?_map, List.getElem?_eq_getElem hi]; rfl)
theorem take_at {L : List (List UInt8)} {k : Nat} (h : k < L.length) : L.take (k + 1) = L.take k ++ [L[k]] := List.take_succ_eq_append_getElem h
theorem sortedAll_dec : sortedAll.Pairwise fun x y => decide (x ≤ y) = true := List.pairwise_mergeSort le_tr le_tot allNames
def acc (j : Nat) : List (List UInt8) := namesLazy ++ (namesOf.take j).flatten
theorem acc_len : (acc 5).length = 69 := by decide +kernel
theorem acc_perm : (acc 5).Perm allNames := by
  have e : acc 5 = namesLazy ++ namesAll := by simp [acc, namesOf, namesAll]
  rw [e]
  exact List.perm_append_comm
theorem fam_kept {w w' : World} {base n : Nat} {v : Value} {xs : List Value} (h : w.ownsRow base 9 1 v n xs) (hg : w.grownBy w' v.ownBlock) {B : Nat} {cs : Array Value} (hb : w.heap[B]? = some (.cells cs 58)) : w'.heap[B]? = some (.cells cs 58) := by
  rw [hg.block B (Array.getElem?_eq_some_iff.1 hb).1 (fun e => ?_)]
  · exact hb
  · rcases h.2 with ⟨hv, _⟩ | ⟨g, cap, cur, hv, _, hg9, _⟩
    · subst hv
      cases e
    · subst hv
      simp [Value.ownBlock] at e
      subst e
      rw [hb] at hg9
      simp at hg9
set_option maxRecDepth 100000 in
set_option maxHeartbeats 8000000 in
theorem all40_in (n : Nat) (hn : 1 ≤ n) (l : Nat) (Fo : World → Nat → Prop) (hFo : FoOK Fo) (J Jx : List (List UInt8) → World → Prop) (W : World)
    (hJ : AbidesFrom W.heap.size J) (hnew : ∀ W', Below W.heap.size W W' → ∀ k, W.heap.size ≤ k → Fo W' k)
    (hY : ∀ pre x W1, J pre W1 → pre.length < sortedAll.length → YieldAt Fence.wide (n - 1) Tryz.prog l (sv x) W1 fun e W' =>
      (e = .returned (.bool true) ∧ J (pre ++ [x]) W' ∧ KF Fo W1 W') ∨ (e = .returned (.bool false) ∧ Jx (pre ++ [x]) W'))
    (h0 : J [] W) :
    CallsIn Fence.wide n Tryz.prog 40 #[.func (.yield l) #[] #[]] W fun e W' => (∃ v, e = .returned v) ∧
      ((∃ ys, ys = sortedAll ∧ J ys W') ∨ (∃ pre, pre <+: sortedAll ∧ Jx pre W')) := by
  obtain ⟨i0, hi, hz0, hz1, hz2⟩ := info_parts info9
  have HI := Lib.hid hi
  have H0 := Lib.hid hz0
  have H1 := Lib.hid hz1
  have H2 := Lib.hid hz2
  have HJ := Lib.hid hJ
  have HNew := Lib.hid hnew
  have HY := Lib.hid hY
  have HJ0 := Lib.hid h0
  have HFo := Lib.hid hFo
  clear hi hz0 hz1 hz2 hJ hnew hY h0 hFo
  refine callsIn_of_wp Tryz.func40 rfl trivial ?_ rfl
  simp only [Tryz.ntmps40, List.size_toArray, List.length_cons, List.length_nil, Nat.reduceAdd, Nat.reduceSub, Array.replicate_succ, Array.replicate_zero, List.push_toArray, List.append_toArray, List.nil_append, List.cons_append]
  gi_wp2
  refine ⟨trivial, CallsIn.mono (callsIn_wide.2 (families26 _)) ?_⟩
  rintro e w1 ⟨rfl, rfl⟩
  have HB0 : Hid (Below W.heap.size W ((W.alloc (.cells #[.string ⟨#[73, 70]⟩, .string ⟨#[73, 70, 69, 82, 82, 79, 82]⟩, .string ⟨#[73, 70, 78, 65]⟩, .string ⟨#[67, 72, 79, 79, 83, 69]⟩, .string ⟨#[83, 87, 73, 84, 67, 72]⟩, .string ⟨#[76, 69, 84]⟩] 9)).alloc (.cells famCells 58))) := Lib.hid (((Below.refl _ _).alloc (Nat.le_refl _) _).alloc (by simp) _)
  have HF0 : Hid (((W.alloc (.cells #[.string ⟨#[73, 70]⟩, .string ⟨#[73, 70, 69, 82, 82, 79, 82]⟩, .string ⟨#[73, 70, 78, 65]⟩, .string ⟨#[67, 72, 79, 79, 83, 69]⟩, .string ⟨#[83, 87, 73, 84, 67, 72]⟩, .string ⟨#[76, 69, 84]⟩] 9)).alloc (.cells famCells 58)).heap[W.heap.size + 1]? = some (.cells famCells 58)) := Lib.hid (by
    have := new_lies (W.alloc (.cells #[.string ⟨#[73, 70]⟩, .string ⟨#[73, 70, 69, 82, 82, 79, 82]⟩, .string ⟨#[73, 70, 78, 65]⟩, .string ⟨#[67, 72, 79, 79, 83, 69]⟩, .string ⟨#[83, 87, 73, 84, 67, 72]⟩, .string ⟨#[76, 69, 84]⟩] 9)) (.cells famCells 58)
    simpa using this)
  have HR0 : Hid (((W.alloc (.cells #[.string ⟨#[73, 70]⟩, .string ⟨#[73, 70, 69, 82, 82, 79, 82]⟩, .string ⟨#[73, 70, 78, 65]⟩, .string ⟨#[67, 72, 79, 79, 83, 69]⟩, .string ⟨#[83, 87, 73, 84, 67, 72]⟩, .string ⟨#[76, 69, 84]⟩] 9)).alloc (.cells famCells 58)).ownsRow W.heap.size 9 1 (.slice (some ⟨W.heap.size, 0, none⟩) 6 6) (acc 0).length ((acc 0).map encStr)) := Lib.hid (by
    have := (World.ownsRow_lit (e := 9) (size := 1) (base := W.heap.size) W #[.string ⟨#[73, 70]⟩, .string ⟨#[73, 70, 69, 82, 82, 79, 82]⟩, .string ⟨#[73, 70, 78, 65]⟩, .string ⟨#[67, 72, 79, 79, 83, 69]⟩, .string ⟨#[83, 87, 73, 84, 67, 72]⟩, .string ⟨#[76, 69, 84]⟩] 6 (Nat.le_refl _) (by decide) (by rfl)).alloc (.cells famCells 58)
    exact this)
  gi_wp2
  refine wpIn_wide.2 ?_
  go_loopw [2, 10] (fun lv iv wr => ∃ j : Nat, j ≤ 5 ∧ iv = .int .i64 (j : Int) ∧ Hid (Below W.heap.size W wr) ∧ Hid (wr.heap[W.heap.size + 1]? = some (.cells famCells 58)) ∧ Hid (wr.ownsRow W.heap.size 9 1 lv (acc j).length ((acc j).map encStr))) (fun _ iv _ => 5 - (intOf iv).toNat)
  case atStart => exact ⟨0, by omega, rfl, HB0, HF0, HR0⟩
  case round =>
    obtain ⟨j, hj, rfl, hb, hf, hr⟩ := hrel
    clear HB0 HF0 HR0
    rcases (show j = 0 ∨ j = 1 ∨ j = 2 ∨ j = 3 ∨ j = 4 ∨ j = 5 by omega) with rfl | rfl | rfl | rfl | rfl | rfl
    · have g0 : wr.cell? ⟨W.heap.size + 1, 0, none⟩ = some (.func (.func 42) #[] #[]) := cell_at hf.out rfl
      have g1 : wr.cell? ⟨W.heap.size + 1, 1, none⟩ = some (.func (.func 43) #[] #[]) := cell_at hf.out rfl
      have g2 : wr.cell? ⟨W.heap.size + 1, 2, none⟩ = some (.func (.func 44) #[] #[]) := cell_at hf.out rfl
      go_wp2_with fail
      clear g0 g1 g2
      refine upon_run (store3 wr _ _ _ 42 43 44) ?_
      have HN := Lib.hid (new_lies wr (.cells #[.func (.func 42) #[] #[], .func (.func 43) #[] #[], .func (.func 44) #[] #[]] 58))
      have HB := Lib.hid (hb.out.alloc hb.out.size (.cells #[.func (.func 42) #[] #[], .func (.func 43) #[] #[], .func (.func 44) #[] #[]] 58))
      have HF := Lib.hid (hbk hf.out ((Below.refl _ _).alloc (Nat.le_refl _) (.cells #[.func (.func 42) #[] #[], .func (.func 43) #[] #[], .func (.func 44) #[] #[]] 58)))
      have HR := Lib.hid (row_below hr.out ((Below.refl _ _).alloc (Nat.le_refl _) (.cells #[.func (.func 42) #[] #[], .func (.func 43) #[] #[], .func (.func 44) #[] #[]] 58)))
      have k0 := cell_at HN.out (o := 0) (v := .func (.func 42) #[] #[]) rfl
      go_wp2_with fail
      refine Calls.mono (names42 _) ?_
      rintro _ w2 ⟨v, rfl, hS, q⟩
      rw [sorted_names.1] at hS
      obtain ⟨bn, on, cn, rfl, hn⟩ := hS.open (by decide)
      have HNn := Lib.hid hn
      have HQ := Lib.hid (HB.out.trans (q.mono HB.out.size))
      have HF2 := Lib.hid (hbk HF.out q)
      have HR2 := Lib.hid (row_below HR.out q)
      clear hS q k0 hn
      go_wp2_with (at_builtin; refine wpList_append_own_at _ rfl _ _ 46 rfl W.heap.size 9 i0 (.string ⟨#[]⟩) 1 16 Tryz.underlying46 HI.out H0.out H1.out H2.out rfl (by decide) _ _ _ rfl HR2.out ⟨bn, on, none⟩ namesMath.length cn (namesMath.map encStr) rfl (by simp) HNn.out (one_names namesMath) (by decide) (by decide) HQ.out.size ?_; intro v' w' hown hg _ _; go_frame; have HR3 := Lib.hid (show w'.ownsRow W.heap.size 9 1 v' (acc (0 + 1)).length ((acc (0 + 1)).map encStr) from hown); have HQ3 := Lib.hid (HQ.out.grown hg HQ.out.size (fun j hj => (HR2.out.lt j hj).1)); have HF3 := Lib.hid (fam_kept HR2.out hg HF2.out); clear HR2 HQ HF2 HNn hown hg HN)
      exact ⟨⟨0 + 1, by omega, rfl, HQ3, HF3, HR3⟩, by simp [intOf]⟩
    · have g0 : wr.cell? ⟨W.heap.size + 1, 3, none⟩ = some (.func (.func 45) #[] #[]) := cell_at hf.out rfl
      have g1 : wr.cell? ⟨W.heap.size + 1, 4, none⟩ = some (.func (.func 46) #[] #[]) := cell_at hf.out rfl
      have g2 : wr.cell? ⟨W.heap.size + 1, 5, none⟩ = some (.func (.func 47) #[] #[]) := cell_at hf.out rfl
      go_wp2_with fail
      clear g0 g1 g2
      refine upon_run (store3 wr _ _ _ 45 46 47) ?_
      have HN := Lib.hid (new_lies wr (.cells #[.func (.func 45) #[] #[], .func (.func 46) #[] #[], .func (.func 47) #[] #[]] 58))
      have HB := Lib.hid (hb.out.alloc hb.out.size (.cells #[.func (.func 45) #[] #[], .func (.func 46) #[] #[], .func (.func 47) #[] #[]] 58))
      have HF := Lib.hid (hbk hf.out ((Below.refl _ _).alloc (Nat.le_refl _) (.cells #[.func (.func 45) #[] #[], .func (.func 46) #[] #[], .func (.func 47) #[] #[]] 58)))
      have HR := Lib.hid (row_below hr.out ((Below.refl _ _).alloc (Nat.le_refl _) (.cells #[.func (.func 45) #[] #[], .func (.func 46) #[] #[], .func (.func 47) #[] #[]] 58)))
      have k0 := cell_at HN.out (o := 0) (v := .func (.func 45) #[] #[]) rfl
      go_wp2_with fail
      refine Calls.mono (names45 _) ?_
      rintro _ w2 ⟨v, rfl, hS, q⟩
      rw [sorted_names.2.1] at hS
      obtain ⟨bn, on, cn, rfl, hn⟩ := hS.open (by decide)
      have HNn := Lib.hid hn
      have HQ := Lib.hid (HB.out.trans (q.mono HB.out.size))
      have HF2 := Lib.hid (hbk HF.out q)
      have HR2 := Lib.hid (row_below HR.out q)
      clear hS q k0 hn
      go_wp2_with (at_builtin; refine wpList_append_own_at _ rfl _ _ 46 rfl W.heap.size 9 i0 (.string ⟨#[]⟩) 1 16 Tryz.underlying46 HI.out H0.out H1.out H2.out rfl (by decide) _ _ _ rfl HR2.out ⟨bn, on, none⟩ namesText.length cn (namesText.map encStr) rfl (by simp) HNn.out (one_names namesText) (by decide) (by decide) HQ.out.size ?_; intro v' w' hown hg _ _; go_frame; have HR3 := Lib.hid (show w'.ownsRow W.heap.size 9 1 v' (acc (1 + 1)).length ((acc (1 + 1)).map encStr) from hown); have HQ3 := Lib.hid (HQ.out.grown hg HQ.out.size (fun j hj => (HR2.out.lt j hj).1)); have HF3 := Lib.hid (fam_kept HR2.out hg HF2.out); clear HR2 HQ HF2 HNn hown hg HN)
      exact ⟨⟨1 + 1, by omega, rfl, HQ3, HF3, HR3⟩, by simp [intOf]⟩
    · have g0 : wr.cell? ⟨W.heap.size + 1, 6, none⟩ = some (.func (.func 48) #[] #[]) := cell_at hf.out rfl
      have g1 : wr.cell? ⟨W.heap.size + 1, 7, none⟩ = some (.func (.func 49) #[] #[]) := cell_at hf.out rfl
      have g2 : wr.cell? ⟨W.heap.size + 1, 8, none⟩ = some (.func (.func 50) #[] #[]) := cell_at hf.out rfl
      go_wp2_with fail
      clear g0 g1 g2
      refine upon_run (store3 wr _ _ _ 48 49 50) ?_
      have HN := Lib.hid (new_lies wr (.cells #[.func (.func 48) #[] #[], .func (.func 49) #[] #[], .func (.func 50) #[] #[]] 58))
      have HB := Lib.hid (hb.out.alloc hb.out.size (.cells #[.func (.func 48) #[] #[], .func (.func 49) #[] #[], .func (.func 50) #[] #[]] 58))
      have HF := Lib.hid (hbk hf.out ((Below.refl _ _).alloc (Nat.le_refl _) (.cells #[.func (.func 48) #[] #[], .func (.func 49) #[] #[], .func (.func 50) #[] #[]] 58)))
      have HR := Lib.hid (row_below hr.out ((Below.refl _ _).alloc (Nat.le_refl _) (.cells #[.func (.func 48) #[] #[], .func (.func 49) #[] #[], .func (.func 50) #[] #[]] 58)))
      have k0 := cell_at HN.out (o := 0) (v := .func (.func 48) #[] #[]) rfl
      go_wp2_with fail
      refine Calls.mono (names48 _) ?_
      rintro _ w2 ⟨v, rfl, hS, q⟩
      rw [sorted_names.2.2.1] at hS
      obtain ⟨bn, on, cn, rfl, hn⟩ := hS.open (by decide)
      have HNn := Lib.hid hn
      have HQ := Lib.hid (HB.out.trans (q.mono HB.out.size))
      have HF2 := Lib.hid (hbk HF.out q)
      have HR2 := Lib.hid (row_below HR.out q)
      clear hS q k0 hn
      go_wp2_with (at_builtin; refine wpList_append_own_at _ rfl _ _ 46 rfl W.heap.size 9 i0 (.string ⟨#[]⟩) 1 16 Tryz.underlying46 HI.out H0.out H1.out H2.out rfl (by decide) _ _ _ rfl HR2.out ⟨bn, on, none⟩ namesLogic.length cn (namesLogic.map encStr) rfl (by simp) HNn.out (one_names namesLogic) (by decide) (by decide) HQ.out.size ?_; intro v' w' hown hg _ _; go_frame; have HR3 := Lib.hid (show w'.ownsRow W.heap.size 9 1 v' (acc (2 + 1)).length ((acc (2 + 1)).map encStr) from hown); have HQ3 := Lib.hid (HQ.out.grown hg HQ.out.size (fun j hj => (HR2.out.lt j hj).1)); have HF3 := Lib.hid (fam_kept HR2.out hg HF2.out); clear HR2 HQ HF2 HNn hown hg HN)
      exact ⟨⟨2 + 1, by omega, rfl, HQ3, HF3, HR3⟩, by simp [intOf]⟩
    · have g0 : wr.cell? ⟨W.heap.size + 1, 9, none⟩ = some (.func (.func 51) #[] #[]) := cell_at hf.out rfl
      have g1 : wr.cell? ⟨W.heap.size + 1, 10, none⟩ = some (.func (.func 52) #[] #[]) := cell_at hf.out rfl
      have g2 : wr.cell? ⟨W.heap.size + 1, 11, none⟩ = some (.func (.func 53) #[] #[]) := cell_at hf.out rfl
      go_wp2_with fail
      clear g0 g1 g2
      refine upon_run (store3 wr _ _ _ 51 52 53) ?_
      have HN := Lib.hid (new_lies wr (.cells #[.func (.func 51) #[] #[], .func (.func 52) #[] #[], .func (.func 53) #[] #[]] 58))
      have HB := Lib.hid (hb.out.alloc hb.out.size (.cells #[.func (.func 51) #[] #[], .func (.func 52) #[] #[], .func (.func 53) #[] #[]] 58))
      have HF := Lib.hid (hbk hf.out ((Below.refl _ _).alloc (Nat.le_refl _) (.cells #[.func (.func 51) #[] #[], .func (.func 52) #[] #[], .func (.func 53) #[] #[]] 58)))
      have HR := Lib.hid (row_below hr.out ((Below.refl _ _).alloc (Nat.le_refl _) (.cells #[.func (.func 51) #[] #[], .func (.func 52) #[] #[], .func (.func 53) #[] #[]] 58)))
      have k0 := cell_at HN.out (o := 0) (v := .func (.func 51) #[] #[]) rfl
      go_wp2_with fail
      refine Calls.mono (names51 _) ?_
      rintro _ w2 ⟨v, rfl, hS, q⟩
      rw [sorted_names.2.2.2.1] at hS
      obtain ⟨bn, on, cn, rfl, hn⟩ := hS.open (by decide)
      have HNn := Lib.hid hn
      have HQ := Lib.hid (HB.out.trans (q.mono HB.out.size))
      have HF2 := Lib.hid (hbk HF.out q)
      have HR2 := Lib.hid (row_below HR.out q)
      clear hS q k0 hn
      go_wp2_with (at_builtin; refine wpList_append_own_at _ rfl _ _ 46 rfl W.heap.size 9 i0 (.string ⟨#[]⟩) 1 16 Tryz.underlying46 HI.out H0.out H1.out H2.out rfl (by decide) _ _ _ rfl HR2.out ⟨bn, on, none⟩ namesLook.length cn (namesLook.map encStr) rfl (by simp) HNn.out (one_names namesLook) (by decide) (by decide) HQ.out.size ?_; intro v' w' hown hg _ _; go_frame; have HR3 := Lib.hid (show w'.ownsRow W.heap.size 9 1 v' (acc (3 + 1)).length ((acc (3 + 1)).map encStr) from hown); have HQ3 := Lib.hid (HQ.out.grown hg HQ.out.size (fun j hj => (HR2.out.lt j hj).1)); have HF3 := Lib.hid (fam_kept HR2.out hg HF2.out); clear HR2 HQ HF2 HNn hown hg HN)
      exact ⟨⟨3 + 1, by omega, rfl, HQ3, HF3, HR3⟩, by simp [intOf]⟩
    · have g0 : wr.cell? ⟨W.heap.size + 1, 12, none⟩ = some (.func (.func 54) #[] #[]) := cell_at hf.out rfl
      have g1 : wr.cell? ⟨W.heap.size + 1, 13, none⟩ = some (.func (.func 55) #[] #[]) := cell_at hf.out rfl
      have g2 : wr.cell? ⟨W.heap.size + 1, 14, none⟩ = some (.func (.func 56) #[] #[]) := cell_at hf.out rfl
      go_wp2_with fail
      clear g0 g1 g2
      refine upon_run (store3 wr _ _ _ 54 55 56) ?_
      have HN := Lib.hid (new_lies wr (.cells #[.func (.func 54) #[] #[], .func (.func 55) #[] #[], .func (.func 56) #[] #[]] 58))
      have HB := Lib.hid (hb.out.alloc hb.out.size (.cells #[.func (.func 54) #[] #[], .func (.func 55) #[] #[], .func (.func 56) #[] #[]] 58))
      have HF := Lib.hid (hbk hf.out ((Below.refl _ _).alloc (Nat.le_refl _) (.cells #[.func (.func 54) #[] #[], .func (.func 55) #[] #[], .func (.func 56) #[] #[]] 58)))
      have HR := Lib.hid (row_below hr.out ((Below.refl _ _).alloc (Nat.le_refl _) (.cells #[.func (.func 54) #[] #[], .func (.func 55) #[] #[], .func (.func 56) #[] #[]] 58)))
      have k0 := cell_at HN.out (o := 0) (v := .func (.func 54) #[] #[]) rfl
      go_wp2_with fail
      refine Calls.mono (names54 _) ?_
      rintro _ w2 ⟨v, rfl, hS, q⟩
      rw [sorted_names.2.2.2.2] at hS
      obtain ⟨bn, on, cn, rfl, hn⟩ := hS.open (by decide)
      have HNn := Lib.hid hn
      have HQ := Lib.hid (HB.out.trans (q.mono HB.out.size))
      have HF2 := Lib.hid (hbk HF.out q)
      have HR2 := Lib.hid (row_below HR.out q)
      clear hS q k0 hn
      go_wp2_with (at_builtin; refine wpList_append_own_at _ rfl _ _ 46 rfl W.heap.size 9 i0 (.string ⟨#[]⟩) 1 16 Tryz.underlying46 HI.out H0.out H1.out H2.out rfl (by decide) _ _ _ rfl HR2.out ⟨bn, on, none⟩ namesArray.length cn (namesArray.map encStr) rfl (by simp) HNn.out (one_names namesArray) (by decide) (by decide) HQ.out.size ?_; intro v' w' hown hg _ _; go_frame; have HR3 := Lib.hid (show w'.ownsRow W.heap.size 9 1 v' (acc (4 + 1)).length ((acc (4 + 1)).map encStr) from hown); have HQ3 := Lib.hid (HQ.out.grown hg HQ.out.size (fun j hj => (HR2.out.lt j hj).1)); have HF3 := Lib.hid (fam_kept HR2.out hg HF2.out); clear HR2 HQ HF2 HNn hown hg HN)
      exact ⟨⟨4 + 1, by omega, rfl, HQ3, HF3, HR3⟩, by simp [intOf]⟩
    · have hr69 := hr.out
      rw [acc_len] at hr69
      rcases hr69.2 with ⟨_, hz⟩ | ⟨g, cap, cur, rfl, hbase, hblk, h1, h2, h3, h4⟩
      · cases hz
      have hH : Holds encStr wr g 0 (acc 5).toArray := holds_of_block hblk (by rw [acc_len] at *; simpa using h4)
      have hgl : g < wr.heap.size := (Array.getElem?_eq_some_iff.1 hblk).1
      have hc : Calls Tryz.prog 41 _ wr _ := AnyM.slices_Sort_string sh_sort41 g 0 cap (acc 5) wr hH hgl (by rw [acc_len]; decide)
      rw [acc_len] at hc
      have HC := Lib.hid hc
      have HBase := Lib.hid hbase
      have HBlk := Lib.hid hblk
      have HH1 := Lib.hid h1
      have HH2 := Lib.hid h2
      have HH3 := Lib.hid h3
      clear hr69 hr hc hbase hblk h1 h2 h3 h4 hH hgl
      go_wp2_with fail
      gi_wp2
      refine ⟨trivial, CallsIn.mono (callsIn_wide.2 HC.out) ?_⟩
      rintro _ w2 ⟨rfl, nn, os, rfl⟩
      have hrow' := ownsRow_sorted (n := nn) (os := os) (List.length_mergeSort (le := fun x y => decide (x ≤ y)) (acc 5)) HBase.out HBlk.out (by rw [acc_len]; exact HH1.out) HH2.out HH3.out
      have hB2 := hb.out.grown (grownBy_sorted (n := nn) (os := os) (w := wr) (g := g) ((acc 5).mergeSort fun x y => decide (x ≤ y)).toArray) hb.out.size (fun j hj => by cases hj; exact HBase.out)
      generalize grow (putRow encStr («Sort».ahead wr nn) g 0 ((acc 5).mergeSort fun x y => decide (x ≤ y)).toArray) os = W2 at *
      rw [sorted_perm (acc_perm.trans sortedAll_perm.symm) sortedAll_dec, acc_len] at hrow'
      have I2 := Lib.hid (it_of_row (Fo := Fo) hrow' (fun k hk => HNew.out W2 hB2 k hk))
      have J2 := Lib.hid (HJ.out [] W W2 none HJ0.out (grownBy_of_below hB2) (fun r e => by cases e))
      have HSL := Lib.hid sortedAll_len
      clear hrow' hB2 HC HBase HBlk HH1 HH2 HH3 HJ0 HNew hb hf
      gi_wp2
      gi_loopw [24] (fun i wr => ∃ k : Nat, k ≤ 69 ∧ i = .int .i64 k ∧ Hid (J (sortedAll.take k) wr) ∧ Hid (It1 Fo wr (some ⟨g, 0, none⟩) sortedAll)) (fun i _ => 69 - (intOf i).toNat)
      case atStart => exact ⟨0, Nat.zero_le _, rfl, J2, I2⟩
      case round =>
        obtain ⟨k, hk, rfl, hJk, hIk⟩ := hrel
        clear J2 I2
        by_cases hlt : k < 69
        · have hkl : k < sortedAll.length := by rw [HSL.out]; exact hlt
          obtain ⟨b1, o1, e1, _, _, hc1⟩ := hIk.out (fun e => by rw [e] at hkl; simp at hkl)
          cases e1
          have g1 := hc1 k hkl
          rw [Nat.zero_add] at g1
          have hz := Lib.hid (take_at hkl)
          clear hc1
          generalize sortedAll[k] = z at *
          clear hkl
          have hk0 : (0 : Int) ≤ (k : Int) := by omega
          have hkn : (k : Int) < 69 := by omega
          obtain ⟨fn, tmps, assign, body, hy, hR⟩ := HY.out _ z _ hJk.out (by rw [List.length_take, HSL.out]; omega)
          have hR' := hR.mono (R' := fun e W' => ∃ bb, e = .returned (.bool bb) ∧ Hid (if bb then J (sortedAll.take k ++ [z]) W' ∧ KF Fo wr W' else Jx (sortedAll.take k ++ [z]) W')) (by
            rintro e W' (⟨rfl, h1, h2⟩ | ⟨rfl, h1⟩)
            · exact ⟨true, rfl, h1, h2⟩
            · exact ⟨false, rfl, h1⟩)
          have HR := Lib.hid hR'
          clear hR'
          unfold sv at hy
          clear hR
          gi_wp2
          refine HR.out.mono ?_
          rintro e W3 ⟨bb, rfl, hbb⟩
          cases bb
          · have hx := hbb.out
            simp only [Bool.false_eq_true, if_false] at hx
            gi_wp2
            refine bodyPost_ret (results_none rfl _ _ _) rfl ?_
            exact ⟨⟨_, rfl⟩, .inr ⟨_, by rw [← hz.out]; exact List.take_prefix _ _, hx⟩⟩
          · have hx := hbb.out
            simp only [if_true] at hx
            obtain ⟨hj3, hk3⟩ := hx
            have HJ3 := Lib.hid hj3
            have HK3 := Lib.hid hk3
            clear hj3 hk3 hbb
            gi_wp2
            go_roundw
            case rel => exact ⟨k + 1, by omega, by go_num, by show J _ _; rw [hz.out]; exact HJ3.out, hIk.out.keep HK3.out⟩
            case measure => simp [intOf]; omega
        · have hkk : k = 69 := by omega
          subst hkk
          gi_wp2
          go_end0
          have hj := hJk.out
          rw [List.take_of_length_le (by rw [HSL.out]; exact Nat.le_refl _)] at hj
          first | exact ⟨⟨_, rfl⟩, .inl hj⟩ | exact ⟨⟨_, rfl⟩, .inl ⟨_, rfl, hj⟩⟩
/-- funcs.All() goes through all names, rising, or through some of the first ones, for every loop body that leaves foreign blocks alone. -/
theorem all40_stops (n : Nat) (hn : 1 ≤ n) (Fo : World → Nat → Prop) (hFo : FoOK Fo) (w : World) (hnew : ∀ W', Below w.heap.size w W' → ∀ k, w.heap.size ≤ k → Fo W' k) :
    SeqStopsK Fence.wide n Tryz.prog 40 #[] sv (KF Fo) (fun ys => ys = sortedAll) (fun pre => pre <+: sortedAll) sortedAll.length w := fun l J Jx W hW hJ _ hY h0 =>
  all40_in n hn l Fo hFo J Jx W hJ (fun W' hW' k hk => hnew W' (hW.trans (hW'.mono hW.size)) k (Nat.le_trans hW.size hk)) hY h0
theorem all23 (w : World) : Calls Tryz.prog 23 #[] w fun e w' => e = .returned (.func (.func 40) #[] #[]) ∧ w' = w := by
  go_enter Tryz.func23, Tryz.ntmps23
  go_wp2
  go_ret
  exact ⟨rfl, rfl⟩
end Go.Proofs.YtdmbppgogdkpdaaGreatDoor
