/-
  CalcTypedUptoCardSaid, proved: for every plan of bulk at most 1048576 the law returns true, and the plan reads as it did; what the row lists is tied to the program's text. Condition: the listed tables read as the program lays them (tied).
-/
import Derived.Test.YtoicnghjjgkebaaGreatDoorN33
import Derived.Test.YtoicnghjjgkebaaGreatDoorAW
import Derived.Test.YtoicnghjjgkebaaGreatDoorIJ
import Derived.Test.YtoicnghjjgkebaaGreatDoorIG
import Derived.Test.YtoicnghjjgkebaaGreatDoorTie
import Derived.ChangeMaps5
import Derived.LaidMore
import Derived.OpenShut
import Derived.Lay
import Derived.Stop.Joined
import Derived.Stop.LaidErr
import Derived.Lib.LaidTab
import Derived.Lib.SmallJoins
import Derived.Carry
import Derived.ChangeSame
import Derived.JoinedCond
import Derived.Deep.DeepHandedRow
set_option linter.unusedSectionVars false
set_option linter.unusedSimpArgs false
set_option linter.unusedVariables false
set_option linter.unnecessarySimpa false
namespace Go.Proofs.YtoicnghjjgkebaaGreatDoor
open Go.ChangeShapes Go.WideShapes Go.ChangeAt Go.WideMaps Go.WideElems Go.RowKit Go.ChangeMaps Go.Joins
theorem own_P : ownKnob Tryz.prog.godebug = none := by kernel_rfl
theorem laid_out : laidOutB Tryz.prog = true := by kernel_rfl
theorem awake_P (W : World) : Calls Tryz.prog 4 #[] W (TrueP W) :=
  letI : AM.Toks := ⟨fun _ => .i64, fun _ => 0, fun _ => ⟨#[]⟩, fun _ => false⟩
  AM.awake4 W
set_option maxRecDepth 100000 in
theorem shaped_P (os : Os) : (World.laidAll Tryz.prog os Rows.calcTypedUptoRow.laid).Shaped Tryz.prog := World.shaped_of_ZipB (by kernel_rfl) (by kernel_rfl)
set_option maxRecDepth 100000 in
theorem met_P (os : Os) (args : Array Value) : laidMetH Tryz.prog Rows.calcTypedUptoRow.laid ((World.laidAll Tryz.prog os Rows.calcTypedUptoRow.laid).forCall (fun _ _ => 0) ⟨#[], args, []⟩).memory := by
  rw [MakeChecks.laidMetH_plain _ _ _ (by kernel_rfl)]
  exact laidMet_laidAll _ (by kernel_rfl) (by kernel_rfl)
theorem reads (os : Os) {H : Type} (enc : TypeId × Value → H) : ∃ places, DataW.whole enc Tryz.prog ((World.laidAll Tryz.prog os Rows.calcTypedUptoRow.laid).forCall (fun _ _ => 0) ⟨#[], #[.agg #[.int .u8 0, .int .u8 0, .slice none 0 0]], []⟩).memory Tryz.f3.params.toList Rows.calcTypedSpec.vars false (#[.agg #[.int .u8 0, .int .u8 0, .slice none 0 0]] : Array Value).toList 8 = some ([.agg [.lit (.int .u8 0), .lit (.int .u8 0), .nil]], [], places) :=
  ⟨[], by kernel_rfl⟩
set_option maxRecDepth 100000 in
theorem contract (H : Type) (enc : TypeId × Value → H) (W : World) (args : Array Value) (ds gs : List (DataW H)) (before : List MemPlace)
    (base : Nat) (hval : ∀ (j : Nat) t v, Tryz.f3.params[j]? = some t → args[j]? = some v → Value.okWide Tryz.prog W .any base t v)
    (hW : DataW.Whole enc Tryz.prog Tryz.f3.params.toList Rows.calcTypedSpec.vars false W args.toList ds gs before) (hk : Rows.uptoSmall H (ds ++ gs) = true) :
    Calls Tryz.prog 3 args W fun e W' => ∃ v, e = .returned v ∧ Rows.calcTypedSpec.post enc Tryz.prog Tryz.f3 false true false false W args v W' := by
  have hW' := hW
  obtain ⟨p, q, hA0, hV, rfl, hfz, hnd⟩ := hW
  have hA : DataW.TrodAll enc Tryz.prog W 0 (fun _ => true) true Tryz.f3.params.toList args.toList ds p := hA0
  rw [Tryz.params3] at hA hval
  obtain ⟨v0, vs0, d0, ds0, p0, q0, hargs, rfl, rfl, h0, r0⟩ := trodAll_cons hA
  obtain ⟨rfl, rfl, rfl⟩ := trodAll_nil r0
  obtain rfl : args = #[v0] := by cases args; simp_all
  obtain ⟨rfl, rfl⟩ := trodVars_none hV
  have hb : Rows.uptoBulk d0 ≤ 1048576 := by
    have h := of_decide_eq_true hk
    simp only [List.append_nil, Rows.uptoBulkAll] at h
    omega
  obtain ⟨a, b, A, us, c, rfl, ⟨ha, hb2⟩, hR, hok, hn⟩ := open_plan (hval 0 24 v0 rfl rfl) h0 hb
  clear hA0 hval
  simp only [List.append_nil] at hW'
  refine (law_c awake_P a b ha hb2 A c us 1048576 W hR hok hn).mono fun e W' ⟨he, hnx⟩ => ?_
  subst he
  have hlt : ∀ x ∈ p0, x.block < W.heap.size := fun x hx => by simpa using hW'.lt x hx
  refine ⟨_, rfl, _, _, _, [], p0, [], hW', ?_, ?_, rfl, hnx.frame _, fun h => by cases h⟩
  · exact trodAll_mk1 (shut_bool Tryz.underlying4 true)
  · have h3 := trodAll_mk1 (Below.trod laid_out (by kernel_rfl) (of_decide_eq_true (by kernel_rfl)) h0 hnx (fun x hx => hlt x hx))
    exact h3
set_option maxRecDepth 100000 in
theorem calcTypedUpto_lifted (os : Os) (started : os.Started) (H : Type) (enc : TypeId × Value → H) (F : Stop.Interp) :
    ReturnsInHanded {} Tryz.checked os 3 .any ((Rows.OpenSpec.upto Rows.calcTypedSpec).preRow enc Tryz.prog Tryz.f3 Rows.calcTypedUptoRow.domain false Rows.calcTypedUptoRow.laid) (((Rows.OpenSpec.upto Rows.calcTypedSpec).at F).post enc Tryz.prog Tryz.f3 false true false false) := by
  obtain ⟨places, hx⟩ := reads os enc
  refine returnsInHanded_of_row (C := Tryz.checked) (s := (Rows.OpenSpec.upto Rows.calcTypedSpec)) own_P started (by kernel_rfl) Tryz.func3
    ⟨World.laidAll Tryz.prog os Rows.calcTypedUptoRow.laid, fun _ _ => 0, ⟨#[], #[.agg #[.int .u8 0, .int .u8 0, .slice none 0 0]], []⟩, World.laidAll_os _ _ _, shaped_P os, rfl, (Input.okWide_of_okWideB (by kernel_rfl)).2,
      OpenSpec.preRow_of_cond 8 hx (by kernel_rfl) (fun k hk => by cases hk; kernel_rfl) (by kernel_rfl) (met_P os _), by
        simp only [Assume.holds]
        exact ⟨by simp, by simp, fun _ => Modest.zero, by simp, by simp⟩⟩ ?_
  intro W base args ds gs before hval hW _ hcond _ hL _ _
  exact contract H enc W args ds gs before base hval hW (hcond _ rfl)
theorem calcTypedUpto_holds : Rows.CalcTypedUptoSaid :=
  OpenClaim.holds_of_cond 3 Tryz.f3 rfl rfl rfl rfl rfl rfl rfl ⟨rfl, rfl, rfl, rfl, rfl⟩ rfl rfl rfl rfl rfl named_P Tryz.func3 closed inst_P wrap_P
    (fun os started H enc _ F => by rw [OpenClaim.pre_eq_preRow]; exact calcTypedUpto_lifted os started H enc F)
theorem calcTypedUptoCard_holds : Rows.CalcTypedUptoCardSaid :=
  Claim7.holds_tied_plain_at .later [] [.data, .data, .data] true (true, "f31ed187aa87f805e55ba4ea3d1eb9c73e78d4aa1a0881c5523d664484a021f5") true
    calcTypedUpto_holds (fun _ h => by cases h) text_P (fun _ h => by cases h) calcTypedUpto_row_tie rfl ⟨rfl, rfl⟩ main_P rfl
    (fun f fn hf hfn => by
      obtain rfl : f = 3 := Option.some.inj (named_P.symm.trans hf) |>.symm
      obtain rfl : fn = Tryz.f3 := (Option.some.inj (Tryz.func3.symm.trans hfn)).symm
      exact ⟨looks_P, fun j t ht => by
        rw [Tryz.params3] at ht
        have hm : t ∈ [24] := by simpa using Array.mem_of_getElem? ht
        exact (show Tryz.prog.wantsStandIn t = false by simpa using List.all_eq_true.1 stands_P t hm)⟩)
    goes_P
end Go.Proofs.YtoicnghjjgkebaaGreatDoor
