/-
  FuncsShapesCardSaid, proved: for every input the law returns true, and each argument reads as it did; what the row lists is tied to the program's text. Condition: the listed tables read as the program lays them (tied).
-/
import Derived.Test.YtdmbppgogdkpdaaGreatDoorE0
import Derived.Test.YtdmbppgogdkpdaaGreatDoorEGShapes
import Derived.Test.YtdmbppgogdkpdaaGreatDoorTie
import Derived.Test.YtdmbppgogdkpdaaGreatDoorEO
import Derived.Test.YtdmbppgogdkpdaaGreatDoorS24
import Derived.Stop.LaidErr
import Derived.Lib.LaidTab
import Derived.Lib.SmallJoins
import Derived.Carry
import Derived.ChangeSame
namespace Go.Proofs.YtdmbppgogdkpdaaGreatDoor
open Go.ChangeShapes Go.WideShapes Go.ChangeAt Go.WideMaps Go.WideElems Go.RowKit Go.ChangeMaps
theorem tab_Shapes {W : World} (hL : laidMetH Tryz.prog Rows.funcsShapesRow.laid W) : PowT W := by
  rw [MakeChecks.laidMetH_plain _ _ _ (by kernel_rfl)] at hL
  have h3 : laidMet Tryz.prog (("internal/strconv.uint64pow10", Lib.tabData .u64 Lib.pow10Tab) :: [("unicode/utf8.acceptRanges", Rows.laid_unicode_utf8_acceptRanges), ("counterpane/value.faultTexts", Rows.laid_counterpane_value_faultTexts), ("unicode/utf8.first", Rows.laid_unicode_utf8_first)]) W := laidMet.tail (laidMet.tail hL)
  exact Lib.tabIs_of_head (g := 3) (t := 297) (e := 132) (n := 20) (by kernel_rfl) (by kernel_rfl) Tryz.underlying297 Tryz.underlying132 (by kernel_rfl) (by kernel_rfl) h3
theorem laid_out : laidOutB Tryz.prog = true := by kernel_rfl
set_option maxRecDepth 100000 in
theorem shaped_Shapes (os : Os) : (World.laidAll Tryz.prog os Rows.funcsShapesRow.laid).Shaped Tryz.prog := World.shaped_of_ZipB (by kernel_rfl) (by kernel_rfl)
set_option maxRecDepth 100000 in
theorem met_Shapes (os : Os) (args : Array Value) : laidMetH Tryz.prog Rows.funcsShapesRow.laid ((World.laidAll Tryz.prog os Rows.funcsShapesRow.laid).forCall (fun _ _ => 0) ⟨#[], args, []⟩).memory := by
  rw [MakeChecks.laidMetH_plain _ _ _ (by kernel_rfl)]
  exact laidMet_laidAll _ (by kernel_rfl) (by kernel_rfl)
set_option maxRecDepth 100000 in
theorem funcsShapes_lifted (os : Os) (started : os.Started) (H : Type) (enc : TypeId × Value → H) :
    ReturnsInHanded {} Tryz.checked os 4 .any (fun w args => (Rows.funcsShapesSpec.pre enc Tryz.prog Tryz.f4 [] false w args ∧ laidMetH Tryz.prog Rows.funcsShapesRow.laid w) ∧ sizedMet enc Tryz.prog Tryz.f4 (OpenSpec.ofChange Rows.funcsShapesSpec) false w args)
      (Rows.funcsShapesSpec.post enc Tryz.prog Tryz.f4 false true false false) := by
  refine returnsInHanded_of_change_and (C := Tryz.checked) (X := fun w _ => laidMetH Tryz.prog Rows.funcsShapesRow.laid w) (fun _ _ _ hh h => h.of_heap hh) tryzOwn started (by kernel_rfl) Tryz.func4
    (ChangeSpec.witness_shaped (enc := enc) (C := Tryz.checked) (os := os) (X := fun w _ => laidMetH Tryz.prog Rows.funcsShapesRow.laid w) false (World.laidAll Tryz.prog os Rows.funcsShapesRow.laid) #[.agg #[.int .i64 0, .int .i64 0, .slice none 0 0]] 8 (World.laidAll_os _ _ _) (shaped_Shapes os) (by kernel_rfl) (by kernel_rfl) (by kernel_rfl) (met_Shapes os _)) ?_
  intro W base args ds gs before hval0 hW _ _ hL _
  have hval : ∀ (j : Nat) t v, Tryz.f4.params[j]? = some t → args[j]? = some v → Value.okWide Tryz.prog W .any base t v := hval0
  have hW' := hW
  obtain ⟨p, q, hA0, hV, rfl, hfz, hnd⟩ := hW
  have hA : DataW.TrodAll enc Tryz.prog W 0 (fun _ => true) true Tryz.f4.params.toList args.toList ds p := hA0
  rw [Tryz.params4] at hA hval
  obtain ⟨v0, d0, rfl, rfl, h0⟩ := trodAll_one hA
  obtain ⟨rfl, rfl⟩ := trodVars_none hV
  obtain ⟨r, c, A, n, ca, l, rfl, hn, hR, hg⟩ := open_array (hval 0 28 v0 rfl rfl) h0
  clear hA0 hval0
  simp only [List.append_nil] at hW'
  refine (law4_c r c A n ca l W hR hn hg (tab_Shapes hL)).mono fun e W' ⟨he, hnx⟩ => ?_
  subst he
  have hlt : ∀ x ∈ p, x.block < W.heap.size := fun x hx => by simpa using hW'.lt x hx
  refine ⟨_, rfl, _, _, _, [], p, [], hW', ?_, ?_, rfl, hnx.frame _, fun h => by cases h⟩
  · exact trodAll_mk1 (shut_bool Tryz.underlying4 true)
  · exact trodAll_mk1 (Below.trod laid_out (by kernel_rfl) (of_decide_eq_true (by kernel_rfl)) h0 hnx (fun x hx => hlt x hx))
theorem funcsShapes_holds : Rows.FuncsShapesSaid :=
  OpenClaim.holds_of_wide 4 Tryz.f4 rfl rfl rfl rfl rfl rfl rfl ⟨rfl, rfl, rfl, rfl, rfl⟩ rfl rfl rfl rfl rfl named_Shapes Tryz.func4 closed_Shapes inst_Shapes wrap_Shapes
    (fun os started H enc _ => funcsShapes_lifted os started H enc)
theorem funcsShapesCard_holds : Rows.FuncsShapesCardSaid :=
  Claim7.holds_tied_plain_at .later [] [.data, .data, .data, .data, .data, .pinned] true (true, "d3f1a7cf53d8d0e1a72e3dfc97abab47d82ba59c89d2d6b194cdfcd441398c7b") false
    funcsShapes_holds (fun _ h => by cases h) text_Shapes (fun _ h => by cases h) funcsShapes_row_tie rfl ⟨rfl, rfl⟩ main_Shapes rfl
    (fun f fn hf hfn => by
      obtain rfl : f = 4 := Option.some.inj (named_Shapes.symm.trans hf) |>.symm
      obtain rfl : fn = Tryz.f4 := (Option.some.inj (Tryz.func4.symm.trans hfn)).symm
      exact ⟨looks_Shapes, fun j t ht => by
        rw [Tryz.params4] at ht
        have hm : t ∈ [28] := by simpa using Array.mem_of_getElem? ht
        exact (show Tryz.prog.wantsStandIn t = false by simpa using List.all_eq_true.1 stands_Shapes t hm)⟩)
    goes_Shapes
end Go.Proofs.YtdmbppgogdkpdaaGreatDoor
