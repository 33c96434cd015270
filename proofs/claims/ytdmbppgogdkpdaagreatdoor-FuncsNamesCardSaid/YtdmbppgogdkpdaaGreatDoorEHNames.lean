/-
  FuncsNamesCardSaid, proved: for every input the law returns true, and each argument reads as it did; what the row lists is tied to the program's text. Condition: the listed tables read as the program lays them (tied).
-/
import Derived.Test.YtdmbppgogdkpdaaGreatDoorE0
import Derived.Test.YtdmbppgogdkpdaaGreatDoorEGNames
import Derived.Test.YtdmbppgogdkpdaaGreatDoorTie
import Derived.Test.YtdmbppgogdkpdaaGreatDoorD12
namespace Go.Proofs.YtdmbppgogdkpdaaGreatDoor
open Go.ChangeShapes Go.WideShapes Go.ChangeAt Go.WideMaps Go.WideElems Go.RowKit Go.ChangeMaps
set_option maxRecDepth 100000 in
theorem shaped_Names (os : Os) : (World.laidAll Tryz.prog os Rows.funcsNamesRow.laid).Shaped Tryz.prog := World.shaped_of_ZipB (by kernel_rfl) (by kernel_rfl)
set_option maxRecDepth 100000 in
theorem met_Names (os : Os) (args : Array Value) : laidMetH Tryz.prog Rows.funcsNamesRow.laid ((World.laidAll Tryz.prog os Rows.funcsNamesRow.laid).forCall (fun _ _ => 0) ⟨#[], args, []⟩).memory := by
  rw [MakeChecks.laidMetH_plain _ _ _ (by kernel_rfl)]
  exact laidMet_laidAll _ (by kernel_rfl) (by kernel_rfl)
set_option maxRecDepth 100000 in
theorem funcsNames_lifted (os : Os) (started : os.Started) (H : Type) (enc : TypeId × Value → H) :
    ReturnsInHanded {} Tryz.checked os 3 .any (fun w args => (Rows.funcsNamesSpec.pre enc Tryz.prog Tryz.f3 [] false w args ∧ laidMetH Tryz.prog Rows.funcsNamesRow.laid w) ∧ sizedMet enc Tryz.prog Tryz.f3 (OpenSpec.ofChange Rows.funcsNamesSpec) false w args)
      (Rows.funcsNamesSpec.post enc Tryz.prog Tryz.f3 false true false false) := by
  refine returnsInHanded_of_change_and (C := Tryz.checked) (X := fun w _ => laidMetH Tryz.prog Rows.funcsNamesRow.laid w) (fun _ _ _ hh h => h.of_heap hh) tryzOwn started (by kernel_rfl) Tryz.func3
    (ChangeSpec.witness_shaped (enc := enc) (C := Tryz.checked) (os := os) (X := fun w _ => laidMetH Tryz.prog Rows.funcsNamesRow.laid w) false (World.laidAll Tryz.prog os Rows.funcsNamesRow.laid) #[.string ByteArray.empty] 8 (World.laidAll_os _ _ _) (shaped_Names os) (by kernel_rfl) (by kernel_rfl) (by kernel_rfl) (met_Names os _)) ?_
  intro W base args ds gs before hval0 hW _ _ hL _
  have hval : ∀ (j : Nat) t v, Tryz.f3.params[j]? = some t → args[j]? = some v → Value.okWide Tryz.prog W .any base t v := hval0
  have hW' := hW
  obtain ⟨p, q, hA0, hV, rfl, hfz, hnd⟩ := hW
  have hA : DataW.TrodAll enc Tryz.prog W 0 (fun _ => true) true Tryz.f3.params.toList args.toList ds p := hA0
  rw [Tryz.params3] at hA hval
  obtain ⟨v0, d0, rfl, rfl, h0⟩ := trodAll_one hA
  obtain ⟨rfl, rfl⟩ := trodVars_none hV
  obtain ⟨s, rfl, rfl, rfl, hs⟩ := open_string Tryz.underlying9 (hval 0 9 v0 rfl rfl) h0
  clear hA0 hval0
  simp only [List.append_nil] at hW'
  refine (law3_holds s W).mono fun e W' ⟨he, hnx⟩ => ?_
  subst he
  refine ⟨_, rfl, _, _, _, [], [], [], hW', ?_, ?_, rfl, hnx.frame _, fun h => by cases h⟩
  · exact trodAll_mk1 (shut_bool Tryz.underlying4 true)
  · exact trodAll_mk1 (shut_string Tryz.underlying9 hs)
theorem funcsNames_holds : Rows.FuncsNamesSaid :=
  OpenClaim.holds_of_wide 3 Tryz.f3 rfl rfl rfl rfl rfl rfl rfl ⟨rfl, rfl, rfl, rfl, rfl⟩ rfl rfl rfl rfl rfl named_Names Tryz.func3 closed_Names inst_Names wrap_Names
    (fun os started H enc _ => funcsNames_lifted os started H enc)
theorem funcsNamesCard_holds : Rows.FuncsNamesCardSaid :=
  Claim7.holds_tied_plain_at .later [] [.data, .data, .data, .data, .data, .pinned] true (true, "d3f1a7cf53d8d0e1a72e3dfc97abab47d82ba59c89d2d6b194cdfcd441398c7b") false
    funcsNames_holds (fun _ h => by cases h) text_Names (fun _ h => by cases h) funcsNames_row_tie rfl ⟨rfl, rfl⟩ main_Names rfl
    (fun f fn hf hfn => by
      obtain rfl : f = 3 := Option.some.inj (named_Names.symm.trans hf) |>.symm
      obtain rfl : fn = Tryz.f3 := (Option.some.inj (Tryz.func3.symm.trans hfn)).symm
      exact ⟨looks_Names, fun j t ht => by
        rw [Tryz.params3] at ht
        have hm : t ∈ [9] := by simpa using Array.mem_of_getElem? ht
        exact (show Tryz.prog.wantsStandIn t = false by simpa using List.all_eq_true.1 stands_Names t hm)⟩)
    goes_Names
end Go.Proofs.YtdmbppgogdkpdaaGreatDoor
