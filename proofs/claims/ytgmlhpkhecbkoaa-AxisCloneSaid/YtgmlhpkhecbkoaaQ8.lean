/-
  (*Axis).Clone and the law's same, of a nil axis. No condition.
-/
import Derived.Test.YtgmlhpkhecbkoaaQ6
namespace Go.Proofs.Ytgmlhpkhecbkoaa
open Go.RowKit Go.Shelf

attribute [local go_sem] Oper.semAt_some

set_option maxRecDepth 100000 in
set_option maxHeartbeats 4000000 in
theorem clone43_nil (w : World) (own : Tags) (u : Nat) :
    Calls Try.prog 43 #[.pointer none] w (CloneP w own u [] []) := by
  refine (callsIn_wide (n := 3)).1 (callsIn_of_wp_marks Try.func43 rfl trivial ?_ rfl)
  simp only [Try.ntmps43, List.size_toArray, List.length_cons, List.length_nil, Nat.reduceAdd, Nat.reduceSub, Array.replicate_succ, Array.replicate_zero, List.push_toArray, List.append_toArray, List.nil_append, List.cons_append]
  refine wpIn_wide.2 ?_
  go_wp2_with fail
  refine (all_c _ _).mono ?_
  rintro e w1 ⟨rfl, rfl⟩
  go_wp2_with fail
  have hq0 : Blk (((w.alloc (.cells #[.slice none 0 0, .slice none 0 0, .map none, .slice none 0 0, .slice none 0 0] 73)).alloc (.cells #[.pointer (some ⟨w.heap.size, 0, none⟩)] 26)).alloc (.cells #[.pointer none] 26)) w.heap.size 73 #[.slice none 0 0, .slice none 0 0, .map none, .slice none 0 0, .slice none 0 0] := ((Blk.new w 73 _).alloc _).alloc _
  have hb0 : Blk (((w.alloc (.cells #[.slice none 0 0, .slice none 0 0, .map none, .slice none 0 0, .slice none 0 0] 73)).alloc (.cells #[.pointer (some ⟨w.heap.size, 0, none⟩)] 26)).alloc (.cells #[.pointer none] 26)) (w.heap.size + 1) 26 #[.pointer (some ⟨w.heap.size, 0, none⟩)] := by
    have := (Blk.new (w.alloc (.cells #[.slice none 0 0, .slice none 0 0, .map none, .slice none 0 0, .slice none 0 0] 73)) 26 #[.pointer (some ⟨w.heap.size, 0, none⟩)]).alloc (.cells #[.pointer none] 26)
    simpa using this
  have ha0 : Hid ((((w.alloc (.cells #[.slice none 0 0, .slice none 0 0, .map none, .slice none 0 0, .slice none 0 0] 73)).alloc (.cells #[.pointer (some ⟨w.heap.size, 0, none⟩)] 26)).alloc (.cells #[.pointer none] 26)).cell? ⟨w.heap.size + 1 + 1, 0, none⟩ = some (.pointer none)) := by
    have := (Blk.new ((w.alloc (.cells #[.slice none 0 0, .slice none 0 0, .map none, .slice none 0 0, .slice none 0 0] 73)).alloc (.cells #[.pointer (some ⟨w.heap.size, 0, none⟩)] 26)) 26 #[.pointer none]).cell 0
    show _ = _
    simpa using this
  have c0 : Hid (CI w own u (w.heap.size + 1) w.heap.size [] [] (tagAt own w.heap.size u) (.slice none 0 0) (.slice none 0 0) (((w.alloc (.cells #[.slice none 0 0, .slice none 0 0, .map none, .slice none 0 0, .slice none 0 0] 73)).alloc (.cells #[.pointer (some ⟨w.heap.size, 0, none⟩)] 26)).alloc (.cells #[.pointer none] 26))) := by
    refine ⟨((((Tr.refl own u w).alloc _).tag (Nat.le_refl _) (by simp) u).alloc _).alloc _, hb0, by simp [tagAt], hq0, ?_, ?_⟩
    · simpa [idCells] using Row.nil _ _ u 24 2
    · simpa [boolCells] using Row.nil _ _ u 4 1
  have hB0 : Hid (Below w.heap.size w (((w.alloc (.cells #[.slice none 0 0, .slice none 0 0, .map none, .slice none 0 0, .slice none 0 0] 73)).alloc (.cells #[.pointer (some ⟨w.heap.size, 0, none⟩)] 26)).alloc (.cells #[.pointer none] 26))) := (((Below.refl _ w).alloc (Nat.le_refl _) _).alloc (by simp) _).alloc (by simp; omega) _
  have hsz : (((w.alloc (.cells #[.slice none 0 0, .slice none 0 0, .map none, .slice none 0 0, .slice none 0 0] 73)).alloc (.cells #[.pointer (some ⟨w.heap.size, 0, none⟩)] 26)).alloc (.cells #[.pointer none] 26)).heap.size = w.heap.size + 3 := by simp
  clear hq0 hb0
  generalize (((w.alloc (.cells #[.slice none 0 0, .slice none 0 0, .map none, .slice none 0 0, .slice none 0 0] 73)).alloc (.cells #[.pointer (some ⟨w.heap.size, 0, none⟩)] 26)).alloc (.cells #[.pointer none] 26)) = W0 at *
  refine (wpIn_wide (n := 3)).1 ?_
  refine wpIn_rangeFunc_ownH rfl (by omega) (gf := 70) (lb := #[.pointer (some ⟨w.heap.size + 1 + 1, 0, none⟩)]) rfl trivial (enters_of Try.func70 (by kernel_rfl) rfl)
    (all70_nil 2 (w.heap.size + 1 + 1) (fun _ _ => True) W0 ha0.out) (fun _ _ => trivial) (fun _ _ _ _ _ _ _ _ => trivial) (Below.refl _ _) (fun _ => rfl)
    (fun pre W => ∃ own1 vI vL, CI w own u (w.heap.size + 1) w.heap.size [] [] own1 vI vL W) (fun _ _ _ => False)
    (fun pre W W' row hs hg hr => by
      obtain ⟨own1, vI, vL, ci⟩ := hs
      exact ⟨own1, vI, vL, ci.grow (by omega) hg hr⟩) (fun _ _ _ _ _ hs _ _ => hs) ⟨_, _, _, c0.out⟩
    (fun _ _ _ => True) (fun _ _ _ _ _ _ hs _ _ => hs) ?assign ?body ?done ?stop
  case assign =>
    rintro l pre x W K ⟨own1, vI, vL, ci⟩ hK
    unfold pairv
    gi_wp2
    exact hK _ _ ((KeepsOthers.alloc _ _).from _) trivial ⟨own1, vI, vL, ci.next ((Below.refl _ W).alloc (Nat.le_refl _) _)⟩ trivial
  case body =>
    rintro l pre x a' W hl _ _ _ hlt
    exact absurd hlt (by omega)
  case done =>
    rintro D ys W hD rfl ⟨own1, vI, vL, ci⟩ hK
    have cb := ci.box.cell 0
    simp only [List.getElem?_toArray, List.getElem?_cons_zero] at cb
    have HCI := Lib.hid ci
    have HK := Lib.hid hK
    clear ci hK
    dsimp only
    go_wp2_with fail
    refine ⟨by simp, .inl ⟨_, _, rfl, run_takeDeferred HK.out, ?_⟩⟩
    have ci5 := HCI.out.grow (W1 := W.putObj D (.deferred none)) (row := some D) (S := w.heap.size) (Nat.le_refl _) (grownBy_putObj' W D (.deferred none)) (fun r e => by cases e; exact ⟨by omega, _, HK.out, rfl⟩)
    exact ⟨_, results_tmp rfl _ _ _, own1, w.heap.size, rfl, ci5.tr, Nat.le_refl _, rfl, by simp, List.nodup_nil, by simp, .inr ⟨_, _, ci5.ax⟩⟩
  case stop =>
    rintro D c pre W _ _ h _
    exact h.elim

set_option maxRecDepth 100000 in
set_option maxHeartbeats 4000000 in
theorem same41_nil (w : World) (own2 : Tags) (u q : Nat) (hx : RefAt w own2 u q [] []) :
    Calls Try.prog 41 #[.pointer none, .pointer (some ⟨q, 0, none⟩)] w fun e w' => e = .returned (.bool true) ∧ Below w.heap.size w w' := by
  have HX := Lib.hid hx
  clear hx
  refine (callsIn_wide (n := 3)).1 (callsIn_of_wp_marks Try.func41 rfl trivial ?_ rfl)
  simp only [Try.ntmps41, List.size_toArray, List.length_cons, List.length_nil, Nat.reduceAdd, Nat.reduceSub, Array.replicate_succ, Array.replicate_zero, List.push_toArray, List.append_toArray, List.nil_append, List.cons_append]
  refine wpIn_wide.2 ?_
  go_wp2_with fail
  refine (all_c _ _).mono ?_
  rintro e w1 ⟨rfl, rfl⟩
  go_wp2_with fail
  have s0 : Hid (SI w q [] [] ((((w.alloc (Obj.cells #[Value.pointer (some ⟨q, 0, none⟩)] 50)).alloc (Obj.cells #[Value.bool false] 4)).alloc (Obj.cells #[Value.int IntKind.i64 0] 3)).alloc (Obj.cells #[Value.pointer none] 26))) := by
    refine ⟨(((Blk.new w 50 _).alloc _).alloc _).alloc _, ?_, ?_, (((((Below.refl _ w).alloc (Nat.le_refl _) _).alloc (by simp) _).alloc (by simp; omega) _).alloc (by simp; omega) _), List.nil_prefix⟩
    · have := ((Blk.new (w.alloc (Obj.cells #[Value.pointer (some ⟨q, 0, none⟩)] 50)) 4 #[Value.bool false]).alloc (Obj.cells #[Value.int IntKind.i64 0] 3)).alloc (Obj.cells #[Value.pointer none] 26)
      simpa using this
    · have := (Blk.new ((w.alloc (Obj.cells #[Value.pointer (some ⟨q, 0, none⟩)] 50)).alloc (Obj.cells #[Value.bool false] 4)) 3 #[Value.int IntKind.i64 0]).alloc (Obj.cells #[Value.pointer none] 26)
      simpa using this
  have b0 : Hid (((((w.alloc (Obj.cells #[Value.pointer (some ⟨q, 0, none⟩)] 50)).alloc (Obj.cells #[Value.bool false] 4)).alloc (Obj.cells #[Value.int IntKind.i64 0] 3)).alloc (Obj.cells #[Value.pointer none] 26)).cell? ⟨w.heap.size + 1 + 1 + 1, 0, none⟩ = some (.pointer none)) := by
    have := (Blk.new (((w.alloc (Obj.cells #[Value.pointer (some ⟨q, 0, none⟩)] 50)).alloc (Obj.cells #[Value.bool false] 4)).alloc (Obj.cells #[Value.int IntKind.i64 0] 3)) 26 #[Value.pointer none]).cell 0
    show _ = _
    simpa using this
  have hsz : ((((w.alloc (Obj.cells #[Value.pointer (some ⟨q, 0, none⟩)] 50)).alloc (Obj.cells #[Value.bool false] 4)).alloc (Obj.cells #[Value.int IntKind.i64 0] 3)).alloc (Obj.cells #[Value.pointer none] 26)).heap.size = w.heap.size + 4 := by simp
  generalize ((((w.alloc (Obj.cells #[Value.pointer (some ⟨q, 0, none⟩)] 50)).alloc (Obj.cells #[Value.bool false] 4)).alloc (Obj.cells #[Value.int IntKind.i64 0] 3)).alloc (Obj.cells #[Value.pointer none] 26)) = W0 at *
  refine (wpIn_wide (n := 3)).1 ?_
  refine wpIn_rangeFunc_ownH rfl (by omega) (gf := 70) (lb := #[.pointer (some ⟨w.heap.size + 1 + 1 + 1, 0, none⟩)]) rfl trivial (enters_of Try.func70 (by kernel_rfl) rfl)
    (all70_nil 2 (w.heap.size + 1 + 1 + 1) (fun _ _ => True) W0 b0.out) (fun _ _ => trivial) (fun _ _ _ _ _ _ _ _ => trivial) (Below.refl _ _) (fun _ => rfl)
    (SI w q []) (fun _ pre _ => ¬ pre <+: []) (SI.own (by omega)) (fun _ => ownFrom_pure _ _) s0.out
    (fun _ _ _ => True) (fun _ _ _ _ _ _ hs _ _ => hs) ?assign ?body ?done ?stop
  case assign =>
    rintro l pre x W K hi hK
    unfold pairv
    gi_wp2
    exact hK _ _ ((KeepsOthers.alloc _ _).from _) trivial (hi.alloc _) trivial
  case body =>
    rintro l pre x a' W hl _ _ _ hlt
    exact absurd hlt (by omega)
  case done =>
    rintro D ys W hD rfl hI hK
    have c2 : W.cell? ⟨w.heap.size + 1 + 1, 0, none⟩ = some (.int .i64 0) := hI.bk.cell 0
    have c3 : W.cell? ⟨w.heap.size, 0, none⟩ = some (.pointer (some ⟨q, 0, none⟩)) := hI.bx.cell 0
    have c4 : W.cell? ⟨w.heap.size + 1, 0, none⟩ = some (.bool false) := hI.br.cell 0
    have f4 := hI.br.frozen 0
    have hx := HX.out.next hI.below
    obtain ⟨AI, cI, c0⟩ := hx.head
    have hll : ((0 : Int) == 0) = true := by simp
    have HI := Lib.hid hI
    have HK := Lib.hid hK
    clear hI hK hx
    dsimp only
    go_wp2_with fail
    refine region_tail 7 (by kernel_rfl) (by kernel_rfl) ?_
    simp only [List.take_succ_cons, List.take_zero, List.drop_succ_cons, List.drop_zero]
    repeat (go_big_quiet_step (fail))
    refine wpQuiet_nil ?_
    go_wp2_with fail
    have hK' : (W.setCell ⟨w.heap.size + 1, 0, none⟩ (.bool true)).drew.heap[D]? = some (.deferred (some [])) := (KeepsOthers.setCell W ⟨w.heap.size + 1, 0, none⟩ (.bool true)).same D _ HK.out rfl
    refine ⟨by simp, .inl ⟨_, _, rfl, run_takeDeferred hK', ?_⟩⟩
    have hc5 := cell_kept (show (W.setCell ⟨w.heap.size + 1, 0, none⟩ (.bool true)).drew.cell? ⟨w.heap.size + 1, 0, none⟩ = some (.bool true) from World.cell?_setCell_same' W ⟨w.heap.size + 1, 0, none⟩ (.bool true) (by rw [c4]; rfl)) (grownBy_putObj' _ D (.deferred none)) (fun r e => by cases e; exact ⟨_, hK', rfl⟩)
    refine ⟨.bool true, ?_, rfl, ((HI.out.below.setCell (p := ⟨w.heap.size + 1, 0, none⟩) (by simp) _).drew).trans (belowK_b (w := w) (Nat.le_refl _) _ D _ _ (by omega) hK' rfl rfl)⟩
    simp [results, Try.f41, go_sem, hc5]
  case stop =>
    rintro D c pre W _ h1 h2 _
    exact absurd h1 h2

end Go.Proofs.Ytgmlhpkhecbkoaa
