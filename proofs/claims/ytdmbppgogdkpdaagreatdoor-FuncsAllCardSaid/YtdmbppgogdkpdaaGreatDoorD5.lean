/-
  The engine awake: a shape of one cell is built. No condition.
-/
import Derived.Test.YtdmbppgogdkpdaaGreatDoorD4
import Derived.OwnWalk
namespace Go.Proofs.YtdmbppgogdkpdaaGreatDoor
open Go.RowKit Go.Maps Go.Sort Go.Shelf
theorem info41 : (Tryz.prog.info? 41).map (fun i => (i.zero, i.size, i.bytes)) = some (some (.agg #[.int .i64 0, .int .i64 0, .int .i64 0, .string ⟨#[]⟩, .bool false, .int .i64 0]), 6, 56) := by kernel_rfl
def rowOf (m : Nat) (b : Bool) : List Value := if m = 0 then [] else (cB b).toList
/-- The shape is under way: m of its cells are laid. -/
structure BI (b : Bool) (w : World) (p m : Nat) (wr : World) : Prop where
  below : Below w.heap.size w wr
  res : wr.heap[w.heap.size]? = some (.cells #[.int .i64 0, .int .i64 0, .slice none 0 0] 28)
  ge : w.heap.size < p
  a : ∃ A c, wr.heap[p]? = some (.cells #[.int .i64 1, .int .i64 1, .slice A m c] 28) ∧ wr.ownsRow (w.heap.size + 1) 41 6 (.slice A m c) m (rowOf m b) ∧ (Value.slice A m c).ownBlock ≠ some p
theorem row_belowG {w w' : World} {B e k : Nat} {v : Value} {n : Nat} {xs : List Value} (h : w.ownsRow B e k v n xs) (q : Below w.heap.size w w') : w'.ownsRow B e k v n xs := by
  refine ⟨h.1, ?_⟩
  rcases h.2 with hn | ⟨g, cap, cur, hv, hb, hg, rest⟩
  · exact .inl hn
  · exact .inr ⟨g, cap, cur, hv, hb, hbk hg q, rest⟩
theorem row_setRow {w : World} {B e k r : Nat} {v : Value} {n : Nat} {xs : List Value} {cs : Array Value} (h : w.ownsRow B e k v n xs) (hr : r < B) : (w.setRow r cs).ownsRow B e k v n xs := by
  refine ⟨h.1, ?_⟩
  rcases h.2 with hn | ⟨g, cap, cur, hv, hb, hg, rest⟩
  · exact .inl hn
  · exact .inr ⟨g, cap, cur, hv, hb, (setRow_other w r g cs (by omega)).trans hg, rest⟩
theorem add_cells {w : World} {g : Nat} {c : Array Value} {t : TypeId} (h : w.heap[g]? = some (.cells c t)) : ∀ j u, c.toList[j]? = some u → w.cell? ((⟨g, 0, none⟩ : Addr).add j) = some u := by
  intro j u hu
  have add : (⟨g, 0, none⟩ : Addr).add j = ⟨g, j, none⟩ := by unfold Addr.add; split <;> simp_all
  rw [add]
  exact cell_at h (by simpa using hu)
theorem row_setRowNe {w : World} {B e k r : Nat} {v : Value} {n : Nat} {xs : List Value} {cs : Array Value} (h : w.ownsRow B e k v n xs) (hr : v.ownBlock ≠ some r) : (w.setRow r cs).ownsRow B e k v n xs := by
  refine ⟨h.1, ?_⟩
  rcases h.2 with hn | ⟨g, cap, cur, hv, hb, hg, rest⟩
  · exact .inl hn
  · exact .inr ⟨g, cap, cur, hv, hb, (setRow_other w r g cs (fun e => hr (by rw [hv, e]; rfl))).trans hg, rest⟩
theorem row_form {w : World} {B e k : Nat} {v : Value} {n : Nat} {xs : List Value} (h : w.ownsRow B e k v n xs) : ∃ A c, v = .slice A n c := by
  rcases h.2 with ⟨hv, h0⟩ | ⟨g, cap, cur, hv, _⟩
  · exact ⟨none, 0, by rw [h0]; exact hv⟩
  · exact ⟨_, _, hv⟩
set_option maxRecDepth 100000 in
set_option maxHeartbeats 4000000 in
theorem build79 (b : Bool) (fb sb g c : Nat) (w : World) (h1 : w.heap[fb]? = some (.cells #[.func (.func 192) #[] #[]] 83)) (h2 : w.heap[sb]? = some (.cells #[.int .i64 1, .int .i64 1, .slice (some ⟨g, 0, none⟩) 1 c] 28)) (h3 : w.heap[g]? = some (.cells (cB b) 41)) :
    Calls Tryz.prog 79 #[.int .i64 1, .int .i64 1, .func (.func 320) #[] #[.pointer (some ⟨fb, 0, none⟩), .pointer (some ⟨sb, 0, none⟩)]] w fun e w' => ∃ (v : Value), e = .returned (.agg #[.int .i64 1, .int .i64 1, v]) ∧ w'.ownsRow (w.heap.size + 1) 41 6 v 1 (cB (!b)).toList ∧ Below w.heap.size w w' := by
  obtain ⟨i0, hi, hz0, hz1, hz2⟩ := info_parts info41
  have G1 := Lib.hid h1
  have G2 := Lib.hid h2
  have G3 := Lib.hid h3
  have I1 := Lib.hid hi
  have I2 := Lib.hid hz0
  have I3 := Lib.hid hz1
  have I4 := Lib.hid hz2
  clear h1 h2 h3 hi hz0 hz1 hz2
  have HB := Lib.hid ((Below.refl w.heap.size w).alloc (Nat.le_refl _) (.cells #[.int .i64 0, .int .i64 0, .slice none 0 0] 28))
  have HL := Lib.hid (new_lies w (.cells #[.int .i64 0, .int .i64 0, .slice none 0 0] 28))
  go_enter Tryz.func79, Tryz.ntmps79
  go_wp2_with (at_make; refine wpList_make_own _ rfl _ _ 26 rfl (w.heap.size + 1) 41 i0 _ 6 Tryz.underlying26 I1.out I2.out I3.out _ _ _ 1 rfl rfl rfl (by rw [I4.out]; decide) (by decide) (by simp) ?_; intro w1 hrow hg; have hs1 := Lib.hid hg.size; have HR := Lib.hid hrow; have HG := Lib.hid hg; clear hrow hg)
  have HI : Hid (BI (!b) w w1.heap.size 0 (w1.alloc (.cells #[.int .i64 1, .int .i64 1, .slice (some ⟨w.heap.size + 1, 0, none⟩) 0 1] 28))) := Lib.hid (by
    have hrow : w1.ownsRow (w.heap.size + 1) 41 6 (.slice (some ⟨w.heap.size + 1, 0, none⟩) 0 1) 0 [] := by simpa using HR.out
    have hl := (hrow.lt (w.heap.size + 1) rfl).2
    refine ⟨(HB.out.grown HG.out HB.out.size (fun j hj => by cases hj)).alloc (by omega) _, ?_, by omega, _, _, new_lies _ _, row_belowG hrow ((Below.refl _ _).alloc (Nat.le_refl _) _), by simp [Value.ownBlock]; omega⟩
    exact hbk ((HG.out.block w.heap.size (by simp) (by simp)).trans HL.out) ((Below.refl _ _).alloc (Nat.le_refl _) _))
  clear HB HL HR HG hs1
  generalize w1.heap.size = p at *
  go_loopw [18] (fun v wr => ∃ j : Nat, j ≤ 1 ∧ v = .int .i64 (j : Int) ∧ Hid (BI (!b) w p j wr)) (fun v _ => 1 - (intOf v).toNat)
  case atStart => exact ⟨0, by omega, rfl, HI⟩
  case round =>
    obtain ⟨j, hj, rfl, hI⟩ := hrel
    clear HI
    rcases (show j = 0 ∨ j = 1 by omega) with rfl | rfl
    · go_wp2_with fail
      go_loopw [22] (fun v wr => ∃ k : Nat, k ≤ 1 ∧ v = .int .i64 (k : Int) ∧ Hid (BI (!b) w p k wr)) (fun v _ => 1 - (intOf v).toNat)
      case atStart => exact ⟨0, by omega, rfl, hI⟩
      case round =>
        obtain ⟨k, hk, rfl, hK⟩ := hrel
        clear hI
        rcases (show k = 0 ∨ k = 1 by omega) with rfl | rfl
        · obtain ⟨A, cc, hp, hrow, hne⟩ := hK.out.a
          have HP := Lib.hid hp
          have HW := Lib.hid hrow
          have HE := Lib.hid hne
          clear hp hrow hne
          have HC : AllCells wr.drew [(⟨p, 2, none⟩, .slice A 0 cc)] := ⟨cell_at HP.out rfl, trivial⟩
          go_wp2_with fail
          refine region_picked [(⟨p, 2, none⟩, .slice A 0 cc)] [0, 1, 2, 3, 4] [0, 1, 2, 3, 4, 5, 6, 7] 5 (by kernel_rfl) (by kernel_rfl) (by kernel_rfl) (by kernel_rfl) (by kernel_rfl) (by kernel_rfl) (fun _ _ _ _ _ h => h) HC ?_
          intro hne hu
          simp only [AllCells] at hu
          simp only [pick, List.take_succ_cons, List.take_zero, List.drop_succ_cons, List.drop_zero, List.cons_append, List.nil_append]
          repeat (go_big_quiet_step (fail))
          refine wpQuiet_nil ?_
          clear hne hu
          refine anyN_oneL 5 (by kernel_rfl) ?_
          simp only [List.take_succ_cons, List.take_zero, List.drop_succ_cons, List.drop_zero]
          go_wp2_with fail
          refine Calls.mono (each320 b fb sb g c wr.drew (hbk G1.out hK.out.below.drew) (hbk G2.out hK.out.below.drew) (hbk G3.out hK.out.below.drew)) ?_
          rintro _ w3 ⟨rfl, q⟩
          have HC3 := AllCells.below HC q
          have HB3 := Lib.hid (hK.out.below.drew.trans (q.mono hK.out.below.size))
          have HS3 := Lib.hid (hbk (show wr.drew.heap[w.heap.size]? = _ from hK.out.res) q)
          have HP3 := Lib.hid (hbk (show wr.drew.heap[p]? = _ from HP.out) q)
          have HW3 := Lib.hid (row_belowG (show wr.drew.ownsRow _ _ _ _ _ _ from HW.out.drew) q)
          have HGE := Lib.hid hK.out.ge
          clear q HC HP HW hK
          go_wp2_with fail
          refine And.intro (fun _ => HC3) ?_
          refine anyN_oneL 6 (by kernel_rfl) ?_
          simp only [List.take_succ_cons, List.take_zero, List.drop_succ_cons, List.drop_zero]
          go_wp2_with fail
          refine And.intro (fun _ => AllCells.alloc HC3 _) ?_
          have HC4 := AllCells.alloc HC3 (.cells (cB (!b)) 41)
          have HB4 := Lib.hid (HB3.out.alloc HB3.out.size (.cells (cB (!b)) 41))
          have HS4 := Lib.hid (hbk HS3.out ((Below.refl _ _).alloc (Nat.le_refl _) (.cells (cB (!b)) 41)))
          have HP4 := Lib.hid (hbk HP3.out ((Below.refl _ _).alloc (Nat.le_refl _) (.cells (cB (!b)) 41)))
          have HW4 := Lib.hid (row_belowG HW3.out ((Below.refl _ _).alloc (Nat.le_refl _) (.cells (cB (!b)) 41)))
          have HNw := Lib.hid (new_lies w3 (.cells (cB (!b)) 41))
          clear HC3 HB3 HS3 HP3 HW3
          refine anyN_oneL 7 (by kernel_rfl) ?_
          simp only [List.take_succ_cons, List.take_zero, List.drop_succ_cons, List.drop_zero]
          go_wp2_with (at_builtin; refine wpList_append_own_at _ rfl _ _ 26 rfl (w.heap.size + 1) 41 i0 _ 6 56 Tryz.underlying26 I1.out I2.out I3.out I4.out rfl (by decide) _ _ _ rfl HW4.out ⟨w3.heap.size, 0, none⟩ 1 1 (cB (!b)).toList rfl rfl (add_cells HNw.out) (by simp [Value.oneCell']) (by decide) (by decide) (Nat.succ_le_of_lt (hlt HS4.out)) ?_; intro v' w4 hown hg hnil h5; go_frame)
          have hg' : (w3.alloc (.cells (cB (!b)) 41)).grownBy w4 (Value.slice A 0 cc).ownBlock := hg
          have h5' : v'.ownBlock = (Value.slice A 0 cc).ownBlock ∨ v'.ownBlock = some (w3.alloc (.cells (cB (!b)) 41)).heap.size := h5
          have HO := Lib.hid (show w4.ownsRow (w.heap.size + 1) 41 6 v' 1 (rowOf 1 (!b)) from hown)
          clear hg h5 hnil hown
          have hlo : ∀ j, (Value.slice A 0 cc).ownBlock = some j → w.heap.size + 1 ≤ j := fun j hj => (HW4.out.lt j hj).1
          have HP5 := Lib.hid ((hg'.block p (hlt HP4.out) (fun e => HE.out e.symm)).trans HP4.out)
          have HS5 := Lib.hid ((hg'.block w.heap.size (hlt HS4.out) (fun e => by have := hlo _ e.symm; omega)).trans HS4.out)
          have HB5 := Lib.hid (HB4.out.grown hg' HB4.out.size (fun j hj => by have := hlo j hj; omega))
          obtain ⟨A', c', rfl⟩ := row_form HO.out
          have HE5 := Lib.hid (show (Value.slice A' 1 c').ownBlock ≠ some p from by
            rcases h5' with h | h
            · rw [h]; exact HE.out
            · rw [h]; intro e; have e' := Option.some.inj e; have := hlt HP4.out; rw [e'] at this; exact absurd this (Nat.lt_irrefl _))
          clear hg' h5' hlo HB4 HS4 HP4 HW4 HNw HE
          have HX := Lib.hid (setCell_eq_setRow w4 p 2 _ _ _ (.slice A' 1 c') HP5.out)
          have HQ := Lib.hid (setRow_heap w4 p _ #[.int .i64 1, .int .i64 1, .slice A' 1 c'] _ _ HP5.out)
          refine ⟨⟨cell_at HP5.out rfl, trivial⟩, ?_⟩
          have c2 : w4.cell? ⟨p, 2, none⟩ = some (.slice A 0 cc) := cell_at HP5.out rfl
          have f2 : w4.frozen? ⟨p, 2, none⟩ = false := by unfold World.frozen?; dsimp only; rw [HP5.out]; rfl
          refine anyN_restL 8 (by kernel_rfl) (by decide) (by kernel_rfl) ?_
          simp only [List.drop_succ_cons, List.drop_zero]
          go_wp2_with fail
          go_roundw
          case rel =>
            refine ⟨_, _, _, _, _, _, _, _, _, _, _, _, _, _, ⟨1, by omega, rfl, Lib.hid ?_⟩, rfl⟩
            rw [HX.out]
            exact ⟨below_setRow HB5.out (Nat.le_of_lt HGE.out) _, (setRow_other _ _ _ _ (Nat.ne_of_lt HGE.out)).trans HS5.out, HGE.out, A', c', HQ.out, row_setRowNe HO.out HE5.out, HE5.out⟩
          case measure => simp [intOf]
        · go_wp2_with fail
          exact ⟨⟨1, by omega, rfl, hK⟩, by simp [intOf]⟩
    · obtain ⟨A, cc, hp, hrow, hne⟩ := hI.out.a
      have HP := Lib.hid hp
      have HW := Lib.hid hrow
      clear hp hrow hne
      have p0 := cell_at HP.out (o := 0) (v := .int .i64 1) rfl
      have p1 := cell_at HP.out (o := 1) (v := .int .i64 1) rfl
      have p2 := cell_at HP.out (o := 2) (v := .slice A 1 cc) rfl
      have HN := Lib.hid (setRow_heap wr w.heap.size _ #[.int .i64 1, .int .i64 1, .slice A 1 cc] _ _ hI.out.res)
      have HB5 := Lib.hid (below_setRow hI.out.below (Nat.le_refl _) #[.int .i64 1, .int .i64 1, .slice A 1 cc])
      have HW5 := Lib.hid (row_setRow (cs := #[.int .i64 1, .int .i64 1, .slice A 1 cc]) HW.out (Nat.lt_succ_self _))
      go_wp2_with (refine wpList_store_row rfl 28 _ _ rfl w.heap.size #[.int .i64 1, .int .i64 1, .slice A 1 cc] rfl rfl 28 #[.int .i64 0, .int .i64 0, .slice none 0 0] hI.out.res (by kernel_rfl) rfl (by simp [Value.oneCell']) ?_)
      have r0 := cell_at HN.out (o := 0) (v := .int .i64 1) rfl
      have r1 := cell_at HN.out (o := 1) (v := .int .i64 1) rfl
      have r2 := cell_at HN.out (o := 2) (v := .slice A 1 cc) rfl
      exact bodyPost_ret (v := .agg #[.int .i64 1, .int .i64 1, .slice A 1 cc]) (by simp [results, Tryz.results79, go_sem, r0, r1, r2]) rfl ⟨_, rfl, HW5.out, HB5.out⟩
end Go.Proofs.YtdmbppgogdkpdaaGreatDoor
