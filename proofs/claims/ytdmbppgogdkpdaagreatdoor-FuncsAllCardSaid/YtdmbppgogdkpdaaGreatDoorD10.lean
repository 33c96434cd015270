/-
  The engine awake: Lib.Call of IF and of NOT. No condition.
-/
import Derived.Test.YtdmbppgogdkpdaaGreatDoorD9
namespace Go.Proofs.YtdmbppgogdkpdaaGreatDoor
open Go.RowKit Go.Maps Go.Sort Go.Shelf
set_option maxRecDepth 100000 in
set_option maxHeartbeats 4000000 in
theorem call16_if (A : Option Addr) (n c : Nat) (w : World) :
    Calls Tryz.prog 16 #[.agg #[], .string ⟨#[73, 70]⟩, .slice A n c] w fun e w' => e = .returned (.tuple #[.agg #[.int .i64 0, .int .i64 0, .slice none 0 0], .bool false]) ∧ Below w.heap.size w w' := by
  have HB := Lib.hid (((Below.refl w.heap.size w).alloc (Nat.le_refl _) (.cells #[] 31)).alloc (by simp) (.cells #[.int .i64 0, .int .i64 0, .slice none 0 0] 28))
  have HL := Lib.hid (show ((w.alloc (.cells #[] 31)).alloc (.cells #[.int .i64 0, .int .i64 0, .slice none 0 0] 28)).heap[w.heap.size + 1]? = some (.cells #[.int .i64 0, .int .i64 0, .slice none 0 0] 28) by
    have := new_lies (w.alloc (.cells #[] 31)) (.cells #[.int .i64 0, .int .i64 0, .slice none 0 0] 28)
    simpa using this)
  go_enter Tryz.func16, Tryz.ntmps16
  go_wp2_with fail
  generalize (w.alloc (.cells #[] 31)).alloc (.cells #[.int .i64 0, .int .i64 0, .slice none 0 0] 28) = V at *
  refine Calls.mono (families26 _) ?_
  rintro _ w2 ⟨rfl, rfl⟩
  have HF := Lib.hid (new_lies V (.cells famCells 58))
  have HB1 := Lib.hid (HB.out.alloc HB.out.size (.cells famCells 58))
  have HL1 := Lib.hid (hbk HL.out ((Below.refl _ _).alloc (Nat.le_refl _) (.cells famCells 58)))
  clear HB HL
  go_wp2_with fail
  generalize V.heap.size = F at *
  go_loopw [14] (fun v wr => ∃ j : Nat, j ≤ 5 ∧ v = .int .i64 (j : Int) ∧ Hid (Below w.heap.size w wr) ∧ Hid (wr.heap[w.heap.size + 1]? = some (.cells #[.int .i64 0, .int .i64 0, .slice none 0 0] 28)) ∧ Hid (wr.heap[F]? = some (.cells famCells 58))) (fun v _ => 5 - (intOf v).toNat)
  case atStart => exact ⟨0, by omega, rfl, HB1, HL1, HF⟩
  case round =>
    obtain ⟨j, hj, rfl, hb, hl, hf⟩ := hrel
    clear HB1 HL1 HF
    rcases (show j = 0 ∨ j = 1 ∨ j = 2 ∨ j = 3 ∨ j = 4 ∨ j = 5 by omega) with rfl | rfl | rfl | rfl | rfl | rfl
    · have g0 : wr.cell? ⟨F, 0, none⟩ = some (.func (.func 42) #[] #[]) := cell_at hf.out rfl
      have g1 : wr.cell? ⟨F, 1, none⟩ = some (.func (.func 43) #[] #[]) := cell_at hf.out rfl
      have g2 : wr.cell? ⟨F, 2, none⟩ = some (.func (.func 44) #[] #[]) := cell_at hf.out rfl
      go_wp2_with fail
      clear g0 g1 g2
      refine upon_run (store3 wr _ _ _ 42 43 44) ?_
      have HN := Lib.hid (new_lies wr (.cells #[.func (.func 42) #[] #[], .func (.func 43) #[] #[], .func (.func 44) #[] #[]] 58))
      have HB2 := Lib.hid (hb.out.alloc hb.out.size (.cells #[.func (.func 42) #[] #[], .func (.func 43) #[] #[], .func (.func 44) #[] #[]] 58))
      have hF2 := Lib.hid (hbk hf.out ((Below.refl _ _).alloc (Nat.le_refl _) (.cells #[.func (.func 42) #[] #[], .func (.func 43) #[] #[], .func (.func 44) #[] #[]] 58)))
      have hL2 := Lib.hid (hbk hl.out ((Below.refl _ _).alloc (Nat.le_refl _) (.cells #[.func (.func 42) #[] #[], .func (.func 43) #[] #[], .func (.func 44) #[] #[]] 58)))
      have k1 := cell_at HN.out (o := 1) (v := .func (.func 43) #[] #[]) rfl
      go_wp2_with fail
      refine Calls.mono (call43_none ⟨#[73, 70]⟩ (by decide) (fun zd => by kernel_rfl) A n c _) ?_
      rintro _ w3 ⟨rfl, q⟩
      clear k1
      have HB3 := Lib.hid ((HB2.out.trans (q.mono HB2.out.size)).alloc (Nat.le_trans HB2.out.size q.size) (.cells #[.int .i64 0, .int .i64 0, .slice none 0 0] 28))
      have hF3 := Lib.hid (hbk (hbk hF2.out q) ((Below.refl _ _).alloc (Nat.le_refl _) (.cells #[.int .i64 0, .int .i64 0, .slice none 0 0] 28)))
      have hL3 := Lib.hid (hbk (hbk hL2.out q) ((Below.refl _ _).alloc (Nat.le_refl _) (.cells #[.int .i64 0, .int .i64 0, .slice none 0 0] 28)))
      clear q HB2 hF2 hL2 HN
      go_wp2_with (refine wpList_store_row rfl 28 _ _ rfl w3.heap.size #[.int .i64 0, .int .i64 0, .slice none 0 0] rfl rfl 28 #[.int .i64 0, .int .i64 0, .slice none 0 0] (new_lies w3 _) (by kernel_rfl) rfl (by simp [Value.oneCell']) ?_; rw [World.setRow_alloc_new])
      exact ⟨⟨0 + 1, by omega, rfl, HB3, hL3, hF3⟩, by simp [intOf]⟩
    · have g0 : wr.cell? ⟨F, 3, none⟩ = some (.func (.func 45) #[] #[]) := cell_at hf.out rfl
      have g1 : wr.cell? ⟨F, 4, none⟩ = some (.func (.func 46) #[] #[]) := cell_at hf.out rfl
      have g2 : wr.cell? ⟨F, 5, none⟩ = some (.func (.func 47) #[] #[]) := cell_at hf.out rfl
      go_wp2_with fail
      clear g0 g1 g2
      refine upon_run (store3 wr _ _ _ 45 46 47) ?_
      have HN := Lib.hid (new_lies wr (.cells #[.func (.func 45) #[] #[], .func (.func 46) #[] #[], .func (.func 47) #[] #[]] 58))
      have HB2 := Lib.hid (hb.out.alloc hb.out.size (.cells #[.func (.func 45) #[] #[], .func (.func 46) #[] #[], .func (.func 47) #[] #[]] 58))
      have hF2 := Lib.hid (hbk hf.out ((Below.refl _ _).alloc (Nat.le_refl _) (.cells #[.func (.func 45) #[] #[], .func (.func 46) #[] #[], .func (.func 47) #[] #[]] 58)))
      have hL2 := Lib.hid (hbk hl.out ((Below.refl _ _).alloc (Nat.le_refl _) (.cells #[.func (.func 45) #[] #[], .func (.func 46) #[] #[], .func (.func 47) #[] #[]] 58)))
      have k1 := cell_at HN.out (o := 1) (v := .func (.func 46) #[] #[]) rfl
      go_wp2_with fail
      refine Calls.mono (call46_none ⟨#[73, 70]⟩ (by decide) (fun zd => by kernel_rfl) A n c _) ?_
      rintro _ w3 ⟨rfl, q⟩
      clear k1
      have HB3 := Lib.hid ((HB2.out.trans (q.mono HB2.out.size)).alloc (Nat.le_trans HB2.out.size q.size) (.cells #[.int .i64 0, .int .i64 0, .slice none 0 0] 28))
      have hF3 := Lib.hid (hbk (hbk hF2.out q) ((Below.refl _ _).alloc (Nat.le_refl _) (.cells #[.int .i64 0, .int .i64 0, .slice none 0 0] 28)))
      have hL3 := Lib.hid (hbk (hbk hL2.out q) ((Below.refl _ _).alloc (Nat.le_refl _) (.cells #[.int .i64 0, .int .i64 0, .slice none 0 0] 28)))
      clear q HB2 hF2 hL2 HN
      go_wp2_with (refine wpList_store_row rfl 28 _ _ rfl w3.heap.size #[.int .i64 0, .int .i64 0, .slice none 0 0] rfl rfl 28 #[.int .i64 0, .int .i64 0, .slice none 0 0] (new_lies w3 _) (by kernel_rfl) rfl (by simp [Value.oneCell']) ?_; rw [World.setRow_alloc_new])
      exact ⟨⟨1 + 1, by omega, rfl, HB3, hL3, hF3⟩, by simp [intOf]⟩
    · have g0 : wr.cell? ⟨F, 6, none⟩ = some (.func (.func 48) #[] #[]) := cell_at hf.out rfl
      have g1 : wr.cell? ⟨F, 7, none⟩ = some (.func (.func 49) #[] #[]) := cell_at hf.out rfl
      have g2 : wr.cell? ⟨F, 8, none⟩ = some (.func (.func 50) #[] #[]) := cell_at hf.out rfl
      go_wp2_with fail
      clear g0 g1 g2
      refine upon_run (store3 wr _ _ _ 48 49 50) ?_
      have HN := Lib.hid (new_lies wr (.cells #[.func (.func 48) #[] #[], .func (.func 49) #[] #[], .func (.func 50) #[] #[]] 58))
      have HB2 := Lib.hid (hb.out.alloc hb.out.size (.cells #[.func (.func 48) #[] #[], .func (.func 49) #[] #[], .func (.func 50) #[] #[]] 58))
      have hF2 := Lib.hid (hbk hf.out ((Below.refl _ _).alloc (Nat.le_refl _) (.cells #[.func (.func 48) #[] #[], .func (.func 49) #[] #[], .func (.func 50) #[] #[]] 58)))
      have hL2 := Lib.hid (hbk hl.out ((Below.refl _ _).alloc (Nat.le_refl _) (.cells #[.func (.func 48) #[] #[], .func (.func 49) #[] #[], .func (.func 50) #[] #[]] 58)))
      have k1 := cell_at HN.out (o := 1) (v := .func (.func 49) #[] #[]) rfl
      go_wp2_with fail
      refine Calls.mono (call49_if A n c _) ?_
      rintro _ w3 ⟨rfl, q⟩
      clear k1
      have HB3 := Lib.hid ((HB2.out.trans (q.mono HB2.out.size)).alloc (Nat.le_trans HB2.out.size q.size) (.cells #[.int .i64 0, .int .i64 0, .slice none 0 0] 28))
      have hF3 := Lib.hid (hbk (hbk hF2.out q) ((Below.refl _ _).alloc (Nat.le_refl _) (.cells #[.int .i64 0, .int .i64 0, .slice none 0 0] 28)))
      have hL3 := Lib.hid (hbk (hbk hL2.out q) ((Below.refl _ _).alloc (Nat.le_refl _) (.cells #[.int .i64 0, .int .i64 0, .slice none 0 0] 28)))
      clear q HB2 hF2 hL2 HN
      go_wp2_with (refine wpList_store_row rfl 28 _ _ rfl w3.heap.size #[.int .i64 0, .int .i64 0, .slice none 0 0] rfl rfl 28 #[.int .i64 0, .int .i64 0, .slice none 0 0] (new_lies w3 _) (by kernel_rfl) rfl (by simp [Value.oneCell']) ?_; rw [World.setRow_alloc_new])
      exact ⟨⟨2 + 1, by omega, rfl, HB3, hL3, hF3⟩, by simp [intOf]⟩
    · have g0 : wr.cell? ⟨F, 9, none⟩ = some (.func (.func 51) #[] #[]) := cell_at hf.out rfl
      have g1 : wr.cell? ⟨F, 10, none⟩ = some (.func (.func 52) #[] #[]) := cell_at hf.out rfl
      have g2 : wr.cell? ⟨F, 11, none⟩ = some (.func (.func 53) #[] #[]) := cell_at hf.out rfl
      go_wp2_with fail
      clear g0 g1 g2
      refine upon_run (store3 wr _ _ _ 51 52 53) ?_
      have HN := Lib.hid (new_lies wr (.cells #[.func (.func 51) #[] #[], .func (.func 52) #[] #[], .func (.func 53) #[] #[]] 58))
      have HB2 := Lib.hid (hb.out.alloc hb.out.size (.cells #[.func (.func 51) #[] #[], .func (.func 52) #[] #[], .func (.func 53) #[] #[]] 58))
      have hF2 := Lib.hid (hbk hf.out ((Below.refl _ _).alloc (Nat.le_refl _) (.cells #[.func (.func 51) #[] #[], .func (.func 52) #[] #[], .func (.func 53) #[] #[]] 58)))
      have hL2 := Lib.hid (hbk hl.out ((Below.refl _ _).alloc (Nat.le_refl _) (.cells #[.func (.func 51) #[] #[], .func (.func 52) #[] #[], .func (.func 53) #[] #[]] 58)))
      have k1 := cell_at HN.out (o := 1) (v := .func (.func 52) #[] #[]) rfl
      go_wp2_with fail
      refine Calls.mono (call52_none ⟨#[73, 70]⟩ (by decide) (fun zd => by kernel_rfl) A n c _) ?_
      rintro _ w3 ⟨rfl, q⟩
      clear k1
      have HB3 := Lib.hid ((HB2.out.trans (q.mono HB2.out.size)).alloc (Nat.le_trans HB2.out.size q.size) (.cells #[.int .i64 0, .int .i64 0, .slice none 0 0] 28))
      have hF3 := Lib.hid (hbk (hbk hF2.out q) ((Below.refl _ _).alloc (Nat.le_refl _) (.cells #[.int .i64 0, .int .i64 0, .slice none 0 0] 28)))
      have hL3 := Lib.hid (hbk (hbk hL2.out q) ((Below.refl _ _).alloc (Nat.le_refl _) (.cells #[.int .i64 0, .int .i64 0, .slice none 0 0] 28)))
      clear q HB2 hF2 hL2 HN
      go_wp2_with (refine wpList_store_row rfl 28 _ _ rfl w3.heap.size #[.int .i64 0, .int .i64 0, .slice none 0 0] rfl rfl 28 #[.int .i64 0, .int .i64 0, .slice none 0 0] (new_lies w3 _) (by kernel_rfl) rfl (by simp [Value.oneCell']) ?_; rw [World.setRow_alloc_new])
      exact ⟨⟨3 + 1, by omega, rfl, HB3, hL3, hF3⟩, by simp [intOf]⟩
    · have g0 : wr.cell? ⟨F, 12, none⟩ = some (.func (.func 54) #[] #[]) := cell_at hf.out rfl
      have g1 : wr.cell? ⟨F, 13, none⟩ = some (.func (.func 55) #[] #[]) := cell_at hf.out rfl
      have g2 : wr.cell? ⟨F, 14, none⟩ = some (.func (.func 56) #[] #[]) := cell_at hf.out rfl
      go_wp2_with fail
      clear g0 g1 g2
      refine upon_run (store3 wr _ _ _ 54 55 56) ?_
      have HN := Lib.hid (new_lies wr (.cells #[.func (.func 54) #[] #[], .func (.func 55) #[] #[], .func (.func 56) #[] #[]] 58))
      have HB2 := Lib.hid (hb.out.alloc hb.out.size (.cells #[.func (.func 54) #[] #[], .func (.func 55) #[] #[], .func (.func 56) #[] #[]] 58))
      have hF2 := Lib.hid (hbk hf.out ((Below.refl _ _).alloc (Nat.le_refl _) (.cells #[.func (.func 54) #[] #[], .func (.func 55) #[] #[], .func (.func 56) #[] #[]] 58)))
      have hL2 := Lib.hid (hbk hl.out ((Below.refl _ _).alloc (Nat.le_refl _) (.cells #[.func (.func 54) #[] #[], .func (.func 55) #[] #[], .func (.func 56) #[] #[]] 58)))
      have k1 := cell_at HN.out (o := 1) (v := .func (.func 55) #[] #[]) rfl
      go_wp2_with fail
      refine Calls.mono (call55_none ⟨#[73, 70]⟩ (by decide) (fun zd => by kernel_rfl) A n c _) ?_
      rintro _ w3 ⟨rfl, q⟩
      clear k1
      have HB3 := Lib.hid ((HB2.out.trans (q.mono HB2.out.size)).alloc (Nat.le_trans HB2.out.size q.size) (.cells #[.int .i64 0, .int .i64 0, .slice none 0 0] 28))
      have hF3 := Lib.hid (hbk (hbk hF2.out q) ((Below.refl _ _).alloc (Nat.le_refl _) (.cells #[.int .i64 0, .int .i64 0, .slice none 0 0] 28)))
      have hL3 := Lib.hid (hbk (hbk hL2.out q) ((Below.refl _ _).alloc (Nat.le_refl _) (.cells #[.int .i64 0, .int .i64 0, .slice none 0 0] 28)))
      clear q HB2 hF2 hL2 HN
      go_wp2_with (refine wpList_store_row rfl 28 _ _ rfl w3.heap.size #[.int .i64 0, .int .i64 0, .slice none 0 0] rfl rfl 28 #[.int .i64 0, .int .i64 0, .slice none 0 0] (new_lies w3 _) (by kernel_rfl) rfl (by simp [Value.oneCell']) ?_; rw [World.setRow_alloc_new])
      exact ⟨⟨4 + 1, by omega, rfl, HB3, hL3, hF3⟩, by simp [intOf]⟩
    · have HN := Lib.hid (setRow_heap wr (w.heap.size + 1) _ #[.int .i64 0, .int .i64 0, .slice none 0 0] _ _ hl.out)
      have HB5 := Lib.hid (below_setRow hb.out (Nat.le_succ _) #[.int .i64 0, .int .i64 0, .slice none 0 0])
      go_wp2_with (refine wpList_store_row rfl 28 _ _ rfl (w.heap.size + 1) #[.int .i64 0, .int .i64 0, .slice none 0 0] rfl rfl 28 #[.int .i64 0, .int .i64 0, .slice none 0 0] hl.out (by kernel_rfl) rfl (by simp [Value.oneCell']) ?_)
      have r0 := cell_at HN.out (o := 0) (v := .int .i64 0) rfl
      have r1 := cell_at HN.out (o := 1) (v := .int .i64 0) rfl
      have r2 := cell_at HN.out (o := 2) (v := .slice none 0 0) rfl
      exact bodyPost_ret (v := .tuple #[.agg #[.int .i64 0, .int .i64 0, .slice none 0 0], .bool false]) (by simp [results, Tryz.results16, go_sem, r0, r1, r2]) rfl ⟨rfl, HB5.out⟩
end Go.Proofs.YtdmbppgogdkpdaaGreatDoor
