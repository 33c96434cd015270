/-
  CalcToldCardSaid, proved: for every input the law returns true, and each argument reads as it did; what the row lists is tied to the program's text. Condition: the listed tables read as the program lays them (tied).
-/
import Derived.Test.YtgdkdmcjjcgcaaaGreatDoorIA
import Derived.Test.YtgdkdmcjjcgcaaaGreatDoorIJ
import Derived.Test.YtgdkdmcjjcgcaaaGreatDoorIG
import Derived.Test.YtgdkdmcjjcgcaaaGreatDoorTie
import Derived.ChangeMaps5
import Derived.LaidMore
import Derived.OpenShut
import Derived.Lay
import Derived.Stop.Joined
import Derived.Stop.LaidErr
import Derived.Lib.LaidTab
import Derived.Lib.SmallJoins
import Derived.Carry
import Derived.ChangeSame
set_option linter.unusedSectionVars false
namespace Go.Proofs.YtgdkdmcjjcgcaaaGreatDoor
open Go.ChangeShapes Go.WideShapes Go.ChangeAt Go.WideMaps Go.WideElems Go.RowKit Go.ChangeMaps Go.Joins
theorem own_P : ownKnob Tryz.prog.godebug = none := by kernel_rfl
theorem tab_cells {P : Program} {W : World} {name : String} {k : IntKind} {zs : List Int} {g : Nat} (h : Lib.TabIs P W name k zs) (hg : P.globalNamed name = some g) (i : Nat) (v : Value) (hv : (zs.map fun z => Value.int k z)[i]? = some v) : W.cell? ⟨g, i, none⟩ = some v := by
  rw [List.getElem?_map] at hv
  cases hz : zs[i]? with
  | none => rw [hz] at hv; cases hv
  | some z =>
    rw [hz] at hv; cases hv
    rw [h.cell hg i (List.getElem?_eq_some_iff.1 hz).1]
    simp [List.getD, hz]
theorem laid_out : laidOutB Tryz.prog = true := by kernel_rfl

set_option maxRecDepth 100000 in
theorem shaped_P (os : Os) : (World.laidAll Tryz.prog os Rows.calcToldRow.laid).Shaped Tryz.prog := World.shaped_of_ZipB (by kernel_rfl) (by kernel_rfl)
set_option maxRecDepth 100000 in
theorem met_P (os : Os) (args : Array Value) : laidMetH Tryz.prog Rows.calcToldRow.laid ((World.laidAll Tryz.prog os Rows.calcToldRow.laid).forCall (fun _ _ => 0) ⟨#[], args, []⟩).memory := by
  rw [MakeChecks.laidMetH_plain _ _ _ (by kernel_rfl)]
  exact laidMet_laidAll _ (by kernel_rfl) (by kernel_rfl)
set_option maxRecDepth 100000 in
theorem calcTold_lifted (os : Os) (started : os.Started) (H : Type) (enc : TypeId × Value → H) :
    ReturnsInHanded {} Tryz.checked os 3 .any (fun w args => (Rows.calcToldSpec.pre enc Tryz.prog Tryz.f3 [] false w args ∧ laidMetH Tryz.prog Rows.calcToldRow.laid w) ∧ sizedMet enc Tryz.prog Tryz.f3 (OpenSpec.ofChange Rows.calcToldSpec) false w args)
      (Rows.calcToldSpec.post enc Tryz.prog Tryz.f3 false true false false) := by
  refine returnsInHanded_of_change_and (C := Tryz.checked) (X := fun w _ => laidMetH Tryz.prog Rows.calcToldRow.laid w) (fun _ _ _ hh h => h.of_heap hh) own_P started (by kernel_rfl) Tryz.func3
    (ChangeSpec.witness_shaped (enc := enc) (C := Tryz.checked) (os := os) (X := fun w _ => laidMetH Tryz.prog Rows.calcToldRow.laid w) false (World.laidAll Tryz.prog os Rows.calcToldRow.laid) #[.agg #[.int .i64 0, .int .i64 0, .int .i64 0, .string ByteArray.empty, .bool false, .int .i64 0], .int .u8 0] 8 (World.laidAll_os _ _ _) (shaped_P os) (by kernel_rfl) (by kernel_rfl) (by kernel_rfl) (met_P os _)) ?_
  intro W base args ds gs before hval0 hW _ _ hL _
  have hval : ∀ (j : Nat) t v, Tryz.f3.params[j]? = some t → args[j]? = some v → Value.okWide Tryz.prog W .any base t v := hval0
  have hW' := hW
  obtain ⟨p, q, hA0, hV, rfl, hfz, hnd⟩ := hW
  have hA : DataW.TrodAll enc Tryz.prog W 0 (fun _ => true) true Tryz.f3.params.toList args.toList ds p := hA0
  rw [Tryz.params3] at hA hval
  obtain ⟨v0, v1, d0, d1, p0, p1, rfl, rfl, rfl, h0, h1⟩ := trodAll_two hA
  obtain ⟨rfl, rfl⟩ := trodVars_none hV
  obtain ⟨z, rfl, g1, g2⟩ := open_value (hval 0 25 v0 rfl rfl) h0
  obtain ⟨n, rfl, rfl, rfl, w1⟩ := open_int Tryz.underlying5 (hval 1 5 v1 rfl rfl) h1
  clear hA0 hval0
  simp only [List.append_nil] at hW'
  refine (walk z n g1 g2 w1 W).mono fun e W' ⟨he, hnx⟩ => ?_
  subst he
  have hlt : ∀ x ∈ p0, x.block < W.heap.size := fun x hx => by simpa using hW'.lt x hx
  refine ⟨_, rfl, _, _, _, [], p0, [], hW', ?_, ?_, rfl, hnx.frame _, fun h => by cases h⟩
  · exact trodAll_mk1 (shut_bool Tryz.underlying4 true)
  · have h3 := trodAll_mk2 (Below.trod laid_out (by kernel_rfl) (of_decide_eq_true (by kernel_rfl)) h0 hnx (fun x hx => hlt x hx)) (shut_int Tryz.underlying5 w1)
    simp only [List.append_nil] at h3
    exact h3
theorem calcTold_holds : Rows.CalcToldSaid :=
  OpenClaim.holds_of_wide 3 Tryz.f3 rfl rfl rfl rfl rfl rfl rfl ⟨rfl, rfl, rfl, rfl, rfl⟩ rfl rfl rfl rfl rfl named_P Tryz.func3 closed inst_P wrap_P
    (fun os started H enc _ => calcTold_lifted os started H enc)
theorem calcToldCard_holds : Rows.CalcToldCardSaid :=
  Claim7.holds_tied_plain_at .later [] [.data, .data, .data] true (true, "f67bf4999c92053e5dd81b5fdbb60e508d2a49681977b5e0dabe2f5e6e5fb080") true
    calcTold_holds (fun _ h => by cases h) text_P (fun _ h => by cases h) calcTold_row_tie rfl ⟨rfl, rfl⟩ main_P rfl
    (fun f fn hf hfn => by
      obtain rfl : f = 3 := Option.some.inj (named_P.symm.trans hf) |>.symm
      obtain rfl : fn = Tryz.f3 := (Option.some.inj (Tryz.func3.symm.trans hfn)).symm
      exact ⟨looks_P, fun j t ht => by
        rw [Tryz.params3] at ht
        have hm : t ∈ [25,5] := by simpa using Array.mem_of_getElem? ht
        exact (show Tryz.prog.wantsStandIn t = false by simpa using List.all_eq_true.1 stands_P t hm)⟩)
    goes_P
end Go.Proofs.YtgdkdmcjjcgcaaaGreatDoor
