/-
  Count: the families are asked one by one. No condition.
-/
import Derived.Test.YtdmbppgogdkpdaaGreatDoorC3
import Derived.Test.YtdmbppgogdkpdaaGreatDoorC4
import Derived.Deep.WholeRow
namespace Go.Proofs.YtdmbppgogdkpdaaGreatDoor
open Go.RowKit Go.Maps Go.Sort Go.Shelf
def famCells : Array Value := #[.func (.func 42) #[] #[], .func (.func 43) #[] #[], .func (.func 44) #[] #[], .func (.func 45) #[] #[], .func (.func 46) #[] #[], .func (.func 47) #[] #[], .func (.func 48) #[] #[], .func (.func 49) #[] #[], .func (.func 50) #[] #[], .func (.func 51) #[] #[], .func (.func 52) #[] #[], .func (.func 53) #[] #[], .func (.func 54) #[] #[], .func (.func 55) #[] #[], .func (.func 56) #[] #[]]
def namesOf : List (List (List UInt8)) := [namesMath, namesText, namesLogic, namesLook, namesArray]
theorem namesOf_take : namesOf.take 0 = [] ∧ namesOf.take 1 = [namesMath] ∧ namesOf.take 2 = [namesMath, namesText] ∧ namesOf.take 3 = [namesMath, namesText, namesLogic] ∧ namesOf.take 4 = [namesMath, namesText, namesLogic, namesLook] := ⟨rfl, rfl, rfl, rfl, rfl⟩
theorem countP_at0 (n : List UInt8) (hl : lazyP n = false) (_hI : ∀ l, l ∈ namesOf.take 0 → isIn n l = false) (h : isIn n namesMath = true) : countP n = ((mathT n).1, (mathT n).2, true) := by
  unfold countP
  rw [if_neg (of_decide_eq_false hl), if_pos h]
theorem countP_at1 (n : List UInt8) (hl : lazyP n = false) (hI : ∀ l, l ∈ namesOf.take 1 → isIn n l = false) (h : isIn n namesText = true) : countP n = ((textT n).1, (textT n).2, true) := by
  have e0 : isIn n namesMath = false := hI _ (by simp [namesOf])
  unfold countP
  rw [if_neg (of_decide_eq_false hl), if_neg (Bool.not_eq_true _ ▸ e0), if_pos h]
theorem countP_at2 (n : List UInt8) (hl : lazyP n = false) (hI : ∀ l, l ∈ namesOf.take 2 → isIn n l = false) (h : isIn n namesLogic = true) : countP n = ((logicT n).1, (logicT n).2, true) := by
  have e0 : isIn n namesMath = false := hI _ (by simp [namesOf])
  have e1 : isIn n namesText = false := hI _ (by simp [namesOf])
  unfold countP
  rw [if_neg (of_decide_eq_false hl), if_neg (Bool.not_eq_true _ ▸ e0), if_neg (Bool.not_eq_true _ ▸ e1), if_pos h]
theorem countP_at3 (n : List UInt8) (hl : lazyP n = false) (hI : ∀ l, l ∈ namesOf.take 3 → isIn n l = false) (h : isIn n namesLook = true) : countP n = ((lookT n).1, (lookT n).2, true) := by
  have e0 : isIn n namesMath = false := hI _ (by simp [namesOf])
  have e1 : isIn n namesText = false := hI _ (by simp [namesOf])
  have e2 : isIn n namesLogic = false := hI _ (by simp [namesOf])
  unfold countP
  rw [if_neg (of_decide_eq_false hl), if_neg (Bool.not_eq_true _ ▸ e0), if_neg (Bool.not_eq_true _ ▸ e1), if_neg (Bool.not_eq_true _ ▸ e2), if_pos h]
theorem countP_at4 (n : List UInt8) (hl : lazyP n = false) (hI : ∀ l, l ∈ namesOf.take 4 → isIn n l = false) (h : isIn n namesArray = true) : countP n = ((arrayT n).1, (arrayT n).2, true) := by
  have e0 : isIn n namesMath = false := hI _ (by simp [namesOf])
  have e1 : isIn n namesText = false := hI _ (by simp [namesOf])
  have e2 : isIn n namesLogic = false := hI _ (by simp [namesOf])
  have e3 : isIn n namesLook = false := hI _ (by simp [namesOf])
  unfold countP
  rw [if_neg (of_decide_eq_false hl), if_neg (Bool.not_eq_true _ ▸ e0), if_neg (Bool.not_eq_true _ ▸ e1), if_neg (Bool.not_eq_true _ ▸ e2), if_neg (Bool.not_eq_true _ ▸ e3), if_pos h]
theorem cell_at {w : World} {b : Nat} {c : Array Value} {t : TypeId} {o : Nat} {v : Value} (hb : w.heap[b]? = some (.cells c t)) (hv : c[o]? = some v) : w.cell? ⟨b, o, none⟩ = some v := by
  unfold World.cell?
  dsimp only
  rw [hb]
  exact hv
set_option maxRecDepth 100000 in
theorem store3 (w : World) (x0 x1 x2 : Value) (f0 f1 f2 : Nat) :
    ((Sem.run Tryz.prog (store ⟨w.heap.size, 0, none⟩ (.func (.func f0) #[] #[])) (w.alloc (.cells #[x0, x1, x2] 58))).andThen fun _ w' =>
      (Sem.run Tryz.prog (store ⟨w.heap.size, 1, none⟩ (.func (.func f1) #[] #[])) w').andThen fun _ w' =>
        Sem.run Tryz.prog (store ⟨w.heap.size, 2, none⟩ (.func (.func f2) #[] #[])) w') = .ok () (w.alloc (.cells #[.func (.func f0) #[] #[], .func (.func f1) #[] #[], .func (.func f2) #[] #[]] 58)) := by
  have h := run_storeCells_new (P := Tryz.prog) w 58 #[x0, x1, x2] #[.func (.func f0) #[] #[], .func (.func f1) #[] #[], .func (.func f2) #[] #[]] (by kernel_rfl) rfl (by simp [Value.oneCell'])
  simpa [storeCells, Addr.add] using h
set_option maxRecDepth 100000 in
set_option maxHeartbeats 4000000 in
theorem count8 (s : ByteArray) (w : World) : Calls Tryz.prog 8 #[.string s] w fun e w' => e = .returned (.tuple #[.int .i64 (countP s.toList).1, .int .i64 (countP s.toList).2.1, .bool (countP s.toList).2.2]) ∧ Below w.heap.size w w' := by
  have HP := Lib.hid (rfl : countP s.toList = countP s.toList)
  go_enter Tryz.func8, Tryz.ntmps8
  go_wp2_with fail
  refine Calls.mono (lazy12 s w) ?_
  rintro _ w1 ⟨rfl, rfl⟩
  cases hl : lazyP s.toList
  · go_wp2_with fail
    refine Calls.mono (families26 _) ?_
    rintro _ w2 ⟨rfl, rfl⟩
    have HF0 := Lib.hid (new_lies w1 (.cells famCells 58))
    go_wp2_with fail
    go_loopw [18] (fun v wr => ∃ j : Nat, j ≤ 5 ∧ v = .int .i64 (j : Int) ∧ Hid (Below w1.heap.size w1 wr) ∧ Hid (wr.heap[w1.heap.size]? = some (.cells famCells 58)) ∧ Hid (∀ l ∈ namesOf.take j, isIn s.toList l = false)) (fun v _ => 5 - (intOf v).toNat)
    case atStart => exact ⟨0, by omega, rfl, Lib.hid ((Below.refl _ _).alloc (Nat.le_refl _) _), HF0, Lib.hid (by simp)⟩
    case round =>
      obtain ⟨j, hj, rfl, hb, hf, hi⟩ := hrel
      rcases (show j = 0 ∨ j = 1 ∨ j = 2 ∨ j = 3 ∨ j = 4 ∨ j = 5 by omega) with rfl | rfl | rfl | rfl | rfl | rfl
      · have g0 : wr.cell? ⟨w1.heap.size, 0, none⟩ = some (.func (.func 42) #[] #[]) := cell_at hf.out rfl
        have g1 : wr.cell? ⟨w1.heap.size, 1, none⟩ = some (.func (.func 43) #[] #[]) := cell_at hf.out rfl
        have g2 : wr.cell? ⟨w1.heap.size, 2, none⟩ = some (.func (.func 44) #[] #[]) := cell_at hf.out rfl
        go_wp2_with fail
        clear g0 g1 g2
        refine upon_run (store3 wr _ _ _ 42 43 44) ?_
        have HN := Lib.hid (new_lies wr (.cells #[.func (.func 42) #[] #[], .func (.func 43) #[] #[], .func (.func 44) #[] #[]] 58))
        have HB := Lib.hid (hb.out.alloc hb.out.size (.cells #[.func (.func 42) #[] #[], .func (.func 43) #[] #[], .func (.func 44) #[] #[]] 58))
        have HF := Lib.hid (hbk hf.out ((Below.refl _ _).alloc (Nat.le_refl _) (.cells #[.func (.func 42) #[] #[], .func (.func 43) #[] #[], .func (.func 44) #[] #[]] 58)))
        have k0 := cell_at HN.out (o := 0) (v := .func (.func 42) #[] #[]) rfl
        go_wp2_with fail
        refine Calls.mono (names42 _) ?_
        rintro _ w2 ⟨v, rfl, hS, q⟩
        rw [sorted_names.1] at hS
        have HS := Lib.hid hS
        have HQ := Lib.hid (HB.out.trans (q.mono HB.out.size))
        have HF2 := Lib.hid (hbk HF.out q)
        have HN2 := Lib.hid (hbk HN.out q)
        clear hS q k0
        go_wp2_with fail
        refine Calls.mono (contains27 v namesMath s w2 HS.out) ?_
        rintro _ w3 ⟨rfl, rfl⟩
        cases hin : isIn s.toList namesMath
        · go_wp2_with fail
          refine ⟨⟨0 + 1, by omega, rfl, HQ, HF2, Lib.hid ?_⟩, by simp [intOf]⟩
          intro l hl2
          rw [show namesOf.take (0 + 1) = namesOf.take 0 ++ [namesMath] from rfl] at hl2
          rcases List.mem_append.1 hl2 with h | h
          · exact hi.out l h
          · rw [List.mem_singleton.1 h]; exact hin
        · have k2 := cell_at HN2.out (o := 2) (v := .func (.func 44) #[] #[]) rfl
          go_wp2_with fail
          refine Calls.mono (ofMath_c s _) ?_
          rintro _ w4 ⟨rfl, rfl⟩
          go_wp2_with fail
          go_ret3
          have hI := fun l h => hi.out l h
          have hz := countP_at0 s.toList hl hI hin
          rw [hz]
          exact ⟨rfl, HQ.out⟩
      · have g0 : wr.cell? ⟨w1.heap.size, 3, none⟩ = some (.func (.func 45) #[] #[]) := cell_at hf.out rfl
        have g1 : wr.cell? ⟨w1.heap.size, 4, none⟩ = some (.func (.func 46) #[] #[]) := cell_at hf.out rfl
        have g2 : wr.cell? ⟨w1.heap.size, 5, none⟩ = some (.func (.func 47) #[] #[]) := cell_at hf.out rfl
        go_wp2_with fail
        clear g0 g1 g2
        refine upon_run (store3 wr _ _ _ 45 46 47) ?_
        have HN := Lib.hid (new_lies wr (.cells #[.func (.func 45) #[] #[], .func (.func 46) #[] #[], .func (.func 47) #[] #[]] 58))
        have HB := Lib.hid (hb.out.alloc hb.out.size (.cells #[.func (.func 45) #[] #[], .func (.func 46) #[] #[], .func (.func 47) #[] #[]] 58))
        have HF := Lib.hid (hbk hf.out ((Below.refl _ _).alloc (Nat.le_refl _) (.cells #[.func (.func 45) #[] #[], .func (.func 46) #[] #[], .func (.func 47) #[] #[]] 58)))
        have k0 := cell_at HN.out (o := 0) (v := .func (.func 45) #[] #[]) rfl
        go_wp2_with fail
        refine Calls.mono (names45 _) ?_
        rintro _ w2 ⟨v, rfl, hS, q⟩
        rw [sorted_names.2.1] at hS
        have HS := Lib.hid hS
        have HQ := Lib.hid (HB.out.trans (q.mono HB.out.size))
        have HF2 := Lib.hid (hbk HF.out q)
        have HN2 := Lib.hid (hbk HN.out q)
        clear hS q k0
        go_wp2_with fail
        refine Calls.mono (contains27 v namesText s w2 HS.out) ?_
        rintro _ w3 ⟨rfl, rfl⟩
        cases hin : isIn s.toList namesText
        · go_wp2_with fail
          refine ⟨⟨1 + 1, by omega, rfl, HQ, HF2, Lib.hid ?_⟩, by simp [intOf]⟩
          intro l hl2
          rw [show namesOf.take (1 + 1) = namesOf.take 1 ++ [namesText] from rfl] at hl2
          rcases List.mem_append.1 hl2 with h | h
          · exact hi.out l h
          · rw [List.mem_singleton.1 h]; exact hin
        · have k2 := cell_at HN2.out (o := 2) (v := .func (.func 47) #[] #[]) rfl
          go_wp2_with fail
          refine Calls.mono (ofText_c s _) ?_
          rintro _ w4 ⟨rfl, rfl⟩
          go_wp2_with fail
          go_ret3
          have hI := fun l h => hi.out l h
          have hz := countP_at1 s.toList hl hI hin
          rw [hz]
          exact ⟨rfl, HQ.out⟩
      · have g0 : wr.cell? ⟨w1.heap.size, 6, none⟩ = some (.func (.func 48) #[] #[]) := cell_at hf.out rfl
        have g1 : wr.cell? ⟨w1.heap.size, 7, none⟩ = some (.func (.func 49) #[] #[]) := cell_at hf.out rfl
        have g2 : wr.cell? ⟨w1.heap.size, 8, none⟩ = some (.func (.func 50) #[] #[]) := cell_at hf.out rfl
        go_wp2_with fail
        clear g0 g1 g2
        refine upon_run (store3 wr _ _ _ 48 49 50) ?_
        have HN := Lib.hid (new_lies wr (.cells #[.func (.func 48) #[] #[], .func (.func 49) #[] #[], .func (.func 50) #[] #[]] 58))
        have HB := Lib.hid (hb.out.alloc hb.out.size (.cells #[.func (.func 48) #[] #[], .func (.func 49) #[] #[], .func (.func 50) #[] #[]] 58))
        have HF := Lib.hid (hbk hf.out ((Below.refl _ _).alloc (Nat.le_refl _) (.cells #[.func (.func 48) #[] #[], .func (.func 49) #[] #[], .func (.func 50) #[] #[]] 58)))
        have k0 := cell_at HN.out (o := 0) (v := .func (.func 48) #[] #[]) rfl
        go_wp2_with fail
        refine Calls.mono (names48 _) ?_
        rintro _ w2 ⟨v, rfl, hS, q⟩
        rw [sorted_names.2.2.1] at hS
        have HS := Lib.hid hS
        have HQ := Lib.hid (HB.out.trans (q.mono HB.out.size))
        have HF2 := Lib.hid (hbk HF.out q)
        have HN2 := Lib.hid (hbk HN.out q)
        clear hS q k0
        go_wp2_with fail
        refine Calls.mono (contains27 v namesLogic s w2 HS.out) ?_
        rintro _ w3 ⟨rfl, rfl⟩
        cases hin : isIn s.toList namesLogic
        · go_wp2_with fail
          refine ⟨⟨2 + 1, by omega, rfl, HQ, HF2, Lib.hid ?_⟩, by simp [intOf]⟩
          intro l hl2
          rw [show namesOf.take (2 + 1) = namesOf.take 2 ++ [namesLogic] from rfl] at hl2
          rcases List.mem_append.1 hl2 with h | h
          · exact hi.out l h
          · rw [List.mem_singleton.1 h]; exact hin
        · have k2 := cell_at HN2.out (o := 2) (v := .func (.func 50) #[] #[]) rfl
          go_wp2_with fail
          refine Calls.mono (ofLogic_c s _) ?_
          rintro _ w4 ⟨rfl, rfl⟩
          go_wp2_with fail
          go_ret3
          have hI := fun l h => hi.out l h
          have hz := countP_at2 s.toList hl hI hin
          rw [hz]
          exact ⟨rfl, HQ.out⟩
      · have g0 : wr.cell? ⟨w1.heap.size, 9, none⟩ = some (.func (.func 51) #[] #[]) := cell_at hf.out rfl
        have g1 : wr.cell? ⟨w1.heap.size, 10, none⟩ = some (.func (.func 52) #[] #[]) := cell_at hf.out rfl
        have g2 : wr.cell? ⟨w1.heap.size, 11, none⟩ = some (.func (.func 53) #[] #[]) := cell_at hf.out rfl
        go_wp2_with fail
        clear g0 g1 g2
        refine upon_run (store3 wr _ _ _ 51 52 53) ?_
        have HN := Lib.hid (new_lies wr (.cells #[.func (.func 51) #[] #[], .func (.func 52) #[] #[], .func (.func 53) #[] #[]] 58))
        have HB := Lib.hid (hb.out.alloc hb.out.size (.cells #[.func (.func 51) #[] #[], .func (.func 52) #[] #[], .func (.func 53) #[] #[]] 58))
        have HF := Lib.hid (hbk hf.out ((Below.refl _ _).alloc (Nat.le_refl _) (.cells #[.func (.func 51) #[] #[], .func (.func 52) #[] #[], .func (.func 53) #[] #[]] 58)))
        have k0 := cell_at HN.out (o := 0) (v := .func (.func 51) #[] #[]) rfl
        go_wp2_with fail
        refine Calls.mono (names51 _) ?_
        rintro _ w2 ⟨v, rfl, hS, q⟩
        rw [sorted_names.2.2.2.1] at hS
        have HS := Lib.hid hS
        have HQ := Lib.hid (HB.out.trans (q.mono HB.out.size))
        have HF2 := Lib.hid (hbk HF.out q)
        have HN2 := Lib.hid (hbk HN.out q)
        clear hS q k0
        go_wp2_with fail
        refine Calls.mono (contains27 v namesLook s w2 HS.out) ?_
        rintro _ w3 ⟨rfl, rfl⟩
        cases hin : isIn s.toList namesLook
        · go_wp2_with fail
          refine ⟨⟨3 + 1, by omega, rfl, HQ, HF2, Lib.hid ?_⟩, by simp [intOf]⟩
          intro l hl2
          rw [show namesOf.take (3 + 1) = namesOf.take 3 ++ [namesLook] from rfl] at hl2
          rcases List.mem_append.1 hl2 with h | h
          · exact hi.out l h
          · rw [List.mem_singleton.1 h]; exact hin
        · have k2 := cell_at HN2.out (o := 2) (v := .func (.func 53) #[] #[]) rfl
          go_wp2_with fail
          refine Calls.mono (ofLook_c s _) ?_
          rintro _ w4 ⟨rfl, rfl⟩
          go_wp2_with fail
          go_ret3
          have hI := fun l h => hi.out l h
          have hz := countP_at3 s.toList hl hI hin
          rw [hz]
          exact ⟨rfl, HQ.out⟩
      · have g0 : wr.cell? ⟨w1.heap.size, 12, none⟩ = some (.func (.func 54) #[] #[]) := cell_at hf.out rfl
        have g1 : wr.cell? ⟨w1.heap.size, 13, none⟩ = some (.func (.func 55) #[] #[]) := cell_at hf.out rfl
        have g2 : wr.cell? ⟨w1.heap.size, 14, none⟩ = some (.func (.func 56) #[] #[]) := cell_at hf.out rfl
        go_wp2_with fail
        clear g0 g1 g2
        refine upon_run (store3 wr _ _ _ 54 55 56) ?_
        have HN := Lib.hid (new_lies wr (.cells #[.func (.func 54) #[] #[], .func (.func 55) #[] #[], .func (.func 56) #[] #[]] 58))
        have HB := Lib.hid (hb.out.alloc hb.out.size (.cells #[.func (.func 54) #[] #[], .func (.func 55) #[] #[], .func (.func 56) #[] #[]] 58))
        have HF := Lib.hid (hbk hf.out ((Below.refl _ _).alloc (Nat.le_refl _) (.cells #[.func (.func 54) #[] #[], .func (.func 55) #[] #[], .func (.func 56) #[] #[]] 58)))
        have k0 := cell_at HN.out (o := 0) (v := .func (.func 54) #[] #[]) rfl
        go_wp2_with fail
        refine Calls.mono (names54 _) ?_
        rintro _ w2 ⟨v, rfl, hS, q⟩
        rw [sorted_names.2.2.2.2] at hS
        have HS := Lib.hid hS
        have HQ := Lib.hid (HB.out.trans (q.mono HB.out.size))
        have HF2 := Lib.hid (hbk HF.out q)
        have HN2 := Lib.hid (hbk HN.out q)
        clear hS q k0
        go_wp2_with fail
        refine Calls.mono (contains27 v namesArray s w2 HS.out) ?_
        rintro _ w3 ⟨rfl, rfl⟩
        cases hin : isIn s.toList namesArray
        · go_wp2_with fail
          refine ⟨⟨4 + 1, by omega, rfl, HQ, HF2, Lib.hid ?_⟩, by simp [intOf]⟩
          intro l hl2
          rw [show namesOf.take (4 + 1) = namesOf.take 4 ++ [namesArray] from rfl] at hl2
          rcases List.mem_append.1 hl2 with h | h
          · exact hi.out l h
          · rw [List.mem_singleton.1 h]; exact hin
        · have k2 := cell_at HN2.out (o := 2) (v := .func (.func 56) #[] #[]) rfl
          go_wp2_with fail
          refine Calls.mono (ofArray_c s _) ?_
          rintro _ w4 ⟨rfl, rfl⟩
          go_wp2_with fail
          go_ret3
          have hI := fun l h => hi.out l h
          have hz := countP_at4 s.toList hl hI hin
          rw [hz]
          exact ⟨rfl, HQ.out⟩
      · go_wp2_with fail
        go_ret3
        have hI := fun l h => hi.out l h
        have hz : countP s.toList = (0, 0, false) := by
          have e0 := hI namesMath (by simp [namesOf])
          have e1 := hI namesText (by simp [namesOf])
          have e2 := hI namesLogic (by simp [namesOf])
          have e3 := hI namesLook (by simp [namesOf])
          have e4 := hI namesArray (by simp [namesOf])
          have hl' := hl
          simp only [lazyP, decide_eq_false_iff_not] at hl'
          simp [countP, hl', e0, e1, e2, e3, e4]
        rw [hz]
        exact ⟨rfl, hb.out⟩
  · go_wp2_with fail
    refine Calls.mono (ofLazy_c s _) ?_
    rintro _ w2 ⟨rfl, rfl⟩
    go_wp2_with fail
    go_ret3
    have hz : countP s.toList = ((lazyT s.toList).1, (lazyT s.toList).2, true) := by
      simp only [lazyP, decide_eq_true_eq] at hl
      simp [countP, hl]
    rw [hz]
    exact ⟨rfl, Below.refl _ _⟩
end Go.Proofs.YtdmbppgogdkpdaaGreatDoor
