/-
  TraceNoneCardSaid, proved: for every input the law returns true, and each argument reads as it did; what the row lists is tied to the program's text. Condition: the listed tables read as the program lays them (tied).
-/
import Derived.Test.YtkaaabledegkbaaGreatDoorIA
import Derived.Test.YtkaaabledegkbaaGreatDoorIJ
import Derived.Test.YtkaaabledegkbaaGreatDoorIG
import Derived.Test.YtkaaabledegkbaaGreatDoorTie
import Derived.ChangeMaps5
import Derived.LaidMore
import Derived.OpenShut
import Derived.Lay
import Derived.Stop.Joined
import Derived.Stop.LaidErr
import Derived.Lib.LaidTab
import Derived.Lib.SmallJoins
import Derived.Carry
import Derived.ChangeSame
namespace Go.Proofs.YtkaaabledegkbaaGreatDoor
open Go.ChangeShapes Go.WideShapes Go.ChangeAt Go.WideMaps Go.WideElems Go.RowKit Go.ChangeMaps Go.Joins
theorem own_P : ownKnob Tryz.prog.godebug = none := by kernel_rfl
theorem tab_cells {P : Program} {W : World} {name : String} {k : IntKind} {zs : List Int} {g : Nat} (h : Lib.TabIs P W name k zs) (hg : P.globalNamed name = some g) (i : Nat) (v : Value) (hv : (zs.map fun z => Value.int k z)[i]? = some v) : W.cell? ⟨g, i, none⟩ = some v := by
  rw [List.getElem?_map] at hv
  cases hz : zs[i]? with
  | none => rw [hz] at hv; cases hv
  | some z =>
    rw [hz] at hv; cases hv
    rw [h.cell hg i (List.getElem?_eq_some_iff.1 hz).1]
    simp [List.getD, hz]
theorem laid_out : laidOutB Tryz.prog = true := by kernel_rfl
theorem cells_id : Tryz.prog.cellsOf 23 = 2 := by kernel_rfl
theorem cells_int : Tryz.prog.cellsOf 3 = 1 := by kernel_rfl
theorem cells_cell : Tryz.prog.cellsOf 25 = 4 := by kernel_rfl
theorem two_of {l : List Value} (h : l.length = 2) : ∃ a b, l = [a, b] := by
  match l, h with
  | [a, b], _ => exact ⟨a, b, rfl⟩
theorem four_of {l : List Value} (h : l.length = 4) : ∃ a b c d, l = [a, b, c, d] := by
  match l, h with
  | [a, b, c, d], _ => exact ⟨a, b, c, d, rfl⟩
section
variable {H : Type} {enc : TypeId × Value → H} {w : World} {base : Nat} {spare : Nat → Bool} {held : Bool}
set_option maxRecDepth 100000 in
theorem trod_id {fuel : Nat} {cs : List Value} {x : DataW H × List MemPlace} (h : DataW.trod enc Tryz.prog w base spare held fuel 23 cs = some x) : ∃ a b : Int, cs = [.int .i64 a, .int .i64 b] := by
  obtain ⟨y0, y1, n, _, hl, h0, h1⟩ := trod_struct2 Tryz.underlying23 h
  rw [cells_id] at hl
  obtain ⟨c0, c1, rfl⟩ := two_of hl
  simp only [cells_int, List.drop_zero, List.take_succ_cons, List.take_zero, List.drop_succ_cons] at h0 h1
  obtain ⟨a, e0, _, _⟩ := DataW.trod_int Tryz.underlying3 h0
  obtain ⟨b, e1, _, _⟩ := DataW.trod_int Tryz.underlying3 h1
  cases e0
  cases e1
  exact ⟨a, b, rfl⟩
set_option maxRecDepth 100000 in
theorem open_cell {r : Reach} {b0 : Nat} {v : Value} {d : DataW H} {p : List MemPlace} (hv : Value.okWide Tryz.prog w r b0 25 v) (h : DataW.Trod enc Tryz.prog w base spare held 25 v d p) :
    ∃ a b c e : Int, v = .agg #[.int .i64 a, .int .i64 b, .int .i64 c, .int .i64 e] := by
  obtain ⟨cs, rfl, hsz⟩ := okWide_struct Tryz.underlying25 hv
  obtain ⟨fuel, hf⟩ := h
  obtain ⟨y0, y1, n, _, hl, h0, h1⟩ := trod_struct2 Tryz.underlying25 hf
  rw [cells_cell] at hl
  obtain ⟨c0, c1, c2, c3, e⟩ := four_of hl
  rw [e] at h0 h1
  simp only [cells_id, List.drop_zero, List.take_succ_cons, List.take_zero, List.drop_succ_cons] at h0 h1
  obtain ⟨a, b, e0⟩ := trod_id h0
  obtain ⟨c, f, e1⟩ := trod_id h1
  cases e0
  cases e1
  refine ⟨a, b, c, f, ?_⟩
  have : cs = #[.int .i64 a, .int .i64 b, .int .i64 c, .int .i64 f] := by
    apply Array.ext'
    simpa [Value.cells] using e
  rw [this]
end

set_option maxRecDepth 100000 in
theorem shaped_P (os : Os) : (World.laidAll Tryz.prog os Rows.traceNoneRow.laid).Shaped Tryz.prog := World.shaped_of_ZipB (by kernel_rfl) (by kernel_rfl)
set_option maxRecDepth 100000 in
theorem met_P (os : Os) (args : Array Value) : laidMetH Tryz.prog Rows.traceNoneRow.laid ((World.laidAll Tryz.prog os Rows.traceNoneRow.laid).forCall (fun _ _ => 0) ⟨#[], args, []⟩).memory := by
  rw [MakeChecks.laidMetH_plain _ _ _ (by kernel_rfl)]
  exact laidMet_laidAll _ (by kernel_rfl) (by kernel_rfl)
set_option maxRecDepth 100000 in
theorem traceNone_lifted (os : Os) (started : os.Started) (H : Type) (enc : TypeId × Value → H) :
    ReturnsInHanded {} Tryz.checked os 3 .any (fun w args => (Rows.traceNoneSpec.pre enc Tryz.prog Tryz.f3 [] false w args ∧ laidMetH Tryz.prog Rows.traceNoneRow.laid w) ∧ sizedMet enc Tryz.prog Tryz.f3 (OpenSpec.ofChange Rows.traceNoneSpec) false w args)
      (Rows.traceNoneSpec.post enc Tryz.prog Tryz.f3 false true false false) := by
  refine returnsInHanded_of_change_and (C := Tryz.checked) (X := fun w _ => laidMetH Tryz.prog Rows.traceNoneRow.laid w) (fun _ _ _ hh h => h.of_heap hh) own_P started (by kernel_rfl) Tryz.func3
    (ChangeSpec.witness_shaped (enc := enc) (C := Tryz.checked) (os := os) (X := fun w _ => laidMetH Tryz.prog Rows.traceNoneRow.laid w) false (World.laidAll Tryz.prog os Rows.traceNoneRow.laid) #[.agg #[.int .i64 0, .int .i64 0, .int .i64 0, .int .i64 0], .int .i64 0, .int .i64 0] 8 (World.laidAll_os _ _ _) (shaped_P os) (by kernel_rfl) (by kernel_rfl) (by kernel_rfl) (met_P os _)) ?_
  intro W base args ds gs before hval0 hW _ _ hL _
  have hval : ∀ (j : Nat) t v, Tryz.f3.params[j]? = some t → args[j]? = some v → Value.okWide Tryz.prog W .any base t v := hval0
  have hW' := hW
  obtain ⟨p, q, hA0, hV, rfl, hfz, hnd⟩ := hW
  have hA : DataW.TrodAll enc Tryz.prog W 0 (fun _ => true) true Tryz.f3.params.toList args.toList ds p := hA0
  rw [Tryz.params3] at hA hval
  obtain ⟨v0, v1, v2, d0, d1, d2, p0, p1, p2, rfl, rfl, rfl, h0, h1, h2⟩ := trodAll_three hA
  obtain ⟨rfl, rfl⟩ := trodVars_none hV
  obtain ⟨row, rfl, rfl, rfl, w1⟩ := open_int Tryz.underlying3 (hval 1 3 v1 rfl rfl) h1
  obtain ⟨col, rfl, rfl, rfl, w2⟩ := open_int Tryz.underlying3 (hval 2 3 v2 rfl rfl) h2
  obtain ⟨x1, x2, x3, x4, rfl⟩ := open_cell (hval 0 25 v0 rfl rfl) h0
  clear hA0 hval0
  simp only [List.append_nil] at hW'
  refine (walk x1 x2 x3 x4 row col W).mono fun e W' ⟨he, hnx⟩ => ?_
  subst he
  have hlt : ∀ x ∈ p0, x.block < W.heap.size := fun x hx => by simpa using hW'.lt x hx
  refine ⟨_, rfl, _, _, _, [], p0, [], hW', ?_, ?_, rfl, hnx.frame _, fun h => by cases h⟩
  · exact trodAll_mk1 (shut_bool Tryz.underlying4 true)
  · have h3 := trodAll_mk3 (Below.trod laid_out (by kernel_rfl) (of_decide_eq_true (by kernel_rfl)) h0 hnx (fun x hx => hlt x hx)) (shut_int Tryz.underlying3 w1) (shut_int Tryz.underlying3 w2)
    simp only [List.append_nil] at h3
    exact h3
theorem traceNone_holds : Rows.TraceNoneSaid :=
  OpenClaim.holds_of_wide 3 Tryz.f3 rfl rfl rfl rfl rfl rfl rfl ⟨rfl, rfl, rfl, rfl, rfl⟩ rfl rfl rfl rfl rfl named_P Tryz.func3 closed inst_P wrap_P
    (fun os started H enc _ => traceNone_lifted os started H enc)
theorem traceNoneCard_holds : Rows.TraceNoneCardSaid :=
  Claim7.holds_tied_plain_at .later [] [.data, .data, .data, .data, .data, .pinned] true (true, "f20b06898feb2c3ed61e2d4fc05aac674e1da7e71e3f4ed23975bfe7a7bee226") true
    traceNone_holds (fun _ h => by cases h) text_P (fun _ h => by cases h) traceNone_row_tie rfl ⟨rfl, rfl⟩ main_P rfl
    (fun f fn hf hfn => by
      obtain rfl : f = 3 := Option.some.inj (named_P.symm.trans hf) |>.symm
      obtain rfl : fn = Tryz.f3 := (Option.some.inj (Tryz.func3.symm.trans hfn)).symm
      exact ⟨looks_P, fun j t ht => by
        rw [Tryz.params3] at ht
        have hm : t ∈ [25,3,3] := by simpa using Array.mem_of_getElem? ht
        exact (show Tryz.prog.wantsStandIn t = false by simpa using List.all_eq_true.1 stands_P t hm)⟩)
    goes_P
end Go.Proofs.YtkaaabledegkbaaGreatDoor
