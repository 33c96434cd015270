/-
  FuncsAllCardSaid, proved: for every input the law returns true, and each argument reads as it did; what the row lists is tied to the program's text. Condition: the listed tables read as the program lays them (tied).
-/
import Derived.Test.YtdmbppgogdkpdaaGreatDoorE0
import Derived.Test.YtdmbppgogdkpdaaGreatDoorEGAll
import Derived.Test.YtdmbppgogdkpdaaGreatDoorTie
import Derived.Test.YtdmbppgogdkpdaaGreatDoorH3
namespace Go.Proofs.YtdmbppgogdkpdaaGreatDoor
open Go.ChangeShapes Go.WideShapes Go.ChangeAt Go.WideMaps Go.WideElems Go.RowKit Go.ChangeMaps
set_option maxRecDepth 100000 in
theorem shaped_All (os : Os) : (World.laidAll Tryz.prog os Rows.funcsAllRow.laid).Shaped Tryz.prog := World.shaped_of_ZipB (by kernel_rfl) (by kernel_rfl)
set_option maxRecDepth 100000 in
theorem met_All (os : Os) (args : Array Value) : laidMetH Tryz.prog Rows.funcsAllRow.laid ((World.laidAll Tryz.prog os Rows.funcsAllRow.laid).forCall (fun _ _ => 0) ⟨#[], args, []⟩).memory := by
  rw [MakeChecks.laidMetH_plain _ _ _ (by kernel_rfl)]
  exact laidMet_laidAll _ (by kernel_rfl) (by kernel_rfl)
set_option maxRecDepth 100000 in
theorem funcsAll_lifted (os : Os) (started : os.Started) (H : Type) (enc : TypeId × Value → H) :
    ReturnsInHanded {} Tryz.checked os 6 .any (fun w args => (Rows.funcsAllSpec.pre enc Tryz.prog Tryz.f6 [] false w args ∧ laidMetH Tryz.prog Rows.funcsAllRow.laid w) ∧ sizedMet enc Tryz.prog Tryz.f6 (OpenSpec.ofChange Rows.funcsAllSpec) false w args)
      (Rows.funcsAllSpec.post enc Tryz.prog Tryz.f6 false true false false) := by
  refine returnsInHanded_of_change_and (C := Tryz.checked) (X := fun w _ => laidMetH Tryz.prog Rows.funcsAllRow.laid w) (fun _ _ _ hh h => h.of_heap hh) tryzOwn started (by kernel_rfl) Tryz.func6
    (ChangeSpec.witness_shaped (enc := enc) (C := Tryz.checked) (os := os) (X := fun w _ => laidMetH Tryz.prog Rows.funcsAllRow.laid w) false (World.laidAll Tryz.prog os Rows.funcsAllRow.laid) #[.int .u8 0] 8 (World.laidAll_os _ _ _) (shaped_All os) (by kernel_rfl) (by kernel_rfl) (by kernel_rfl) (met_All os _)) ?_
  intro W base args ds gs before hval0 hW _ _ hL _
  have hval : ∀ (j : Nat) t v, Tryz.f6.params[j]? = some t → args[j]? = some v → Value.okWide Tryz.prog W .any base t v := hval0
  have hW' := hW
  obtain ⟨p, q, hA0, hV, rfl, hfz, hnd⟩ := hW
  have hA : DataW.TrodAll enc Tryz.prog W 0 (fun _ => true) true Tryz.f6.params.toList args.toList ds p := hA0
  rw [Tryz.params6] at hA hval
  obtain ⟨v0, d0, rfl, rfl, h0⟩ := trodAll_one hA
  obtain ⟨rfl, rfl⟩ := trodVars_none hV
  obtain ⟨z, rfl, rfl, rfl, wz⟩ := open_int Tryz.underlying5 (hval 0 5 v0 rfl rfl) h0
  have hz : 0 ≤ z ∧ z ≤ 255 := by
    have k1 : IntKind.u8.min = 0 := rfl
    have k2 : IntKind.u8.max = 255 := rfl
    have := wz
    simp only [Lit.wf, Bool.and_eq_true, decide_eq_true_eq] at this
    omega
  clear hA0 hval0
  simp only [List.append_nil] at hW'
  refine (law6 z hz.1 hz.2 W).mono fun e W' ⟨he, hnx⟩ => ?_
  subst he
  refine ⟨_, rfl, _, _, _, [], [], [], hW', ?_, ?_, rfl, hnx.frame _, fun h => by cases h⟩
  · exact trodAll_mk1 (shut_bool Tryz.underlying4 true)
  · exact trodAll_mk1 (shut_int Tryz.underlying5 wz)
theorem funcsAll_holds : Rows.FuncsAllSaid :=
  OpenClaim.holds_of_wide 6 Tryz.f6 rfl rfl rfl rfl rfl rfl rfl ⟨rfl, rfl, rfl, rfl, rfl⟩ rfl rfl rfl rfl rfl named_All Tryz.func6 closed_All inst_All wrap_All
    (fun os started H enc _ => funcsAll_lifted os started H enc)
theorem funcsAllCard_holds : Rows.FuncsAllCardSaid :=
  Claim7.holds_tied_plain_at .later [] [.data, .data, .data, .data, .data, .pinned] true (true, "d3f1a7cf53d8d0e1a72e3dfc97abab47d82ba59c89d2d6b194cdfcd441398c7b") false
    funcsAll_holds (fun _ h => by cases h) text_All (fun _ h => by cases h) funcsAll_row_tie rfl ⟨rfl, rfl⟩ main_All rfl
    (fun f fn hf hfn => by
      obtain rfl : f = 6 := Option.some.inj (named_All.symm.trans hf) |>.symm
      obtain rfl : fn = Tryz.f6 := (Option.some.inj (Tryz.func6.symm.trans hfn)).symm
      exact ⟨looks_All, fun j t ht => by
        rw [Tryz.params6] at ht
        have hm : t ∈ [5] := by simpa using Array.mem_of_getElem? ht
        exact (show Tryz.prog.wantsStandIn t = false by simpa using List.all_eq_true.1 stands_All t hm)⟩)
    goes_All
end Go.Proofs.YtdmbppgogdkpdaaGreatDoor
