/-
  FuncsPiecesCardSaid, proved: for every input the law returns true, and each argument reads as it did; what the row lists is tied to the program's text. Condition: the listed tables read as the program lays them (tied).
-/
import Derived.Test.YtdmbppgogdkpdaaGreatDoorE0
import Derived.Test.YtdmbppgogdkpdaaGreatDoorEGPieces
import Derived.Test.YtdmbppgogdkpdaaGreatDoorTie
import Derived.Test.YtdmbppgogdkpdaaGreatDoorEW
import Derived.Test.YtdmbppgogdkpdaaGreatDoorU5
import Derived.Stop.LaidErr
import Derived.Lib.LaidTab
import Derived.Lib.SmallJoins
import Derived.Carry
import Derived.ChangeSame
namespace Go.Proofs.YtdmbppgogdkpdaaGreatDoor
open Go.ChangeShapes Go.WideShapes Go.ChangeAt Go.WideMaps Go.WideElems Go.RowKit Go.ChangeMaps
theorem tab_Pieces {W : World} (hL : laidMetH Tryz.prog Rows.funcsPiecesRow.laid W) : PowT W := by
  rw [MakeChecks.laidMetH_plain _ _ _ (by kernel_rfl)] at hL
  have h3 : laidMet Tryz.prog (("internal/strconv.uint64pow10", Lib.tabData .u64 Lib.pow10Tab) :: [("unicode/utf8.acceptRanges", Rows.laid_unicode_utf8_acceptRanges), ("counterpane/value.faultTexts", Rows.laid_counterpane_value_faultTexts), ("unicode/utf8.first", Rows.laid_unicode_utf8_first)]) W := laidMet.tail (laidMet.tail hL)
  exact Lib.tabIs_of_head (g := 3) (t := 297) (e := 132) (n := 20) (by kernel_rfl) (by kernel_rfl) Tryz.underlying297 Tryz.underlying132 (by kernel_rfl) (by kernel_rfl) h3
theorem max_Pieces {W : World} (h : W.ShapedOpen Tryz.prog) : MaxT W := cell_of_shapedOpen_int (t := 3) (zero := #[.int .i64 0]) h (of_decide_eq_true (by kernel_rfl)) (by kernel_rfl) rfl (by kernel_rfl) (by kernel_rfl) Tryz.underlying3
set_option maxRecDepth 100000 in
theorem shaped_Pieces (os : Os) : (World.laidAll Tryz.prog os Rows.funcsPiecesRow.laid).Shaped Tryz.prog := World.shaped_of_ZipB (by kernel_rfl) (by kernel_rfl)
set_option maxRecDepth 100000 in
theorem met_Pieces (os : Os) (args : Array Value) : laidMetH Tryz.prog Rows.funcsPiecesRow.laid ((World.laidAll Tryz.prog os Rows.funcsPiecesRow.laid).forCall (fun _ _ => 0) ⟨#[], args, []⟩).memory := by
  rw [MakeChecks.laidMetH_plain _ _ _ (by kernel_rfl)]
  exact laidMet_laidAll _ (by kernel_rfl) (by kernel_rfl)
set_option maxRecDepth 100000 in
theorem funcsPieces_lifted (os : Os) (started : os.Started) (H : Type) (enc : TypeId × Value → H) :
    ReturnsInHanded {} Tryz.checked os 5 .any (fun w args => (Rows.funcsPiecesSpec.pre enc Tryz.prog Tryz.f5 [] false w args ∧ laidMetH Tryz.prog Rows.funcsPiecesRow.laid w) ∧ sizedMet enc Tryz.prog Tryz.f5 (OpenSpec.ofChange Rows.funcsPiecesSpec) false w args)
      (Rows.funcsPiecesSpec.post enc Tryz.prog Tryz.f5 false true false false) := by
  refine returns_and_shaped (C := Tryz.checked) (X := fun w _ => laidMetH Tryz.prog Rows.funcsPiecesRow.laid w) (fun _ _ _ hh h => h.of_heap hh) tryzOwn started (by kernel_rfl) Tryz.func5
    (ChangeSpec.witness_shaped (enc := enc) (C := Tryz.checked) (os := os) (X := fun w _ => laidMetH Tryz.prog Rows.funcsPiecesRow.laid w) false (World.laidAll Tryz.prog os Rows.funcsPiecesRow.laid) #[.string ByteArray.empty, .string ByteArray.empty] 8 (World.laidAll_os _ _ _) (shaped_Pieces os) (by kernel_rfl) (by kernel_rfl) (by kernel_rfl) (met_Pieces os _)) ?_
  intro W base args ds gs before hval0 hW _ _ hSh hL _
  have hval : ∀ (j : Nat) t v, Tryz.f5.params[j]? = some t → args[j]? = some v → Value.okWide Tryz.prog W .any base t v := hval0
  have hW' := hW
  obtain ⟨p, q, hA0, hV, rfl, hfz, hnd⟩ := hW
  have hA : DataW.TrodAll enc Tryz.prog W 0 (fun _ => true) true Tryz.f5.params.toList args.toList ds p := hA0
  rw [Tryz.params5] at hA hval
  obtain ⟨v0, v1, d0, d1, p0, p1, rfl, rfl, rfl, h0, h1⟩ := trodAll_two hA
  obtain ⟨rfl, rfl⟩ := trodVars_none hV
  obtain ⟨s, rfl, rfl, rfl, hs⟩ := open_string Tryz.underlying9 (hval 0 9 v0 rfl rfl) h0
  obtain ⟨u, rfl, rfl, rfl, hu⟩ := open_string Tryz.underlying9 (hval 1 9 v1 rfl rfl) h1
  clear hA0 hval0
  simp only [List.append_nil] at hW'
  refine (law5_c s u W (tab_Pieces hL) (max_Pieces hSh)).mono fun e W' ⟨he, hnx⟩ => ?_
  subst he
  refine ⟨_, rfl, _, _, _, [], [], [], hW', ?_, ?_, rfl, hnx.frame _, fun h => by cases h⟩
  · exact trodAll_mk1 (shut_bool Tryz.underlying4 true)
  · exact trodAll_mk2 (shut_string Tryz.underlying9 hs) (shut_string Tryz.underlying9 hu)
theorem funcsPieces_holds : Rows.FuncsPiecesSaid :=
  OpenClaim.holds_of_wide 5 Tryz.f5 rfl rfl rfl rfl rfl rfl rfl ⟨rfl, rfl, rfl, rfl, rfl⟩ rfl rfl rfl rfl rfl named_Pieces Tryz.func5 closed_Pieces inst_Pieces wrap_Pieces
    (fun os started H enc _ => funcsPieces_lifted os started H enc)
theorem funcsPiecesCard_holds : Rows.FuncsPiecesCardSaid :=
  Claim7.holds_tied_plain_at .later [] [.data, .data, .data, .data, .data, .pinned] true (true, "d3f1a7cf53d8d0e1a72e3dfc97abab47d82ba59c89d2d6b194cdfcd441398c7b") false
    funcsPieces_holds (fun _ h => by cases h) text_Pieces (fun _ h => by cases h) funcsPieces_row_tie rfl ⟨rfl, rfl⟩ main_Pieces rfl
    (fun f fn hf hfn => by
      obtain rfl : f = 5 := Option.some.inj (named_Pieces.symm.trans hf) |>.symm
      obtain rfl : fn = Tryz.f5 := (Option.some.inj (Tryz.func5.symm.trans hfn)).symm
      exact ⟨looks_Pieces, fun j t ht => by
        rw [Tryz.params5] at ht
        have hm : t ∈ [9, 9] := by simpa using Array.mem_of_getElem? ht
        exact (show Tryz.prog.wantsStandIn t = false by simpa using List.all_eq_true.1 stands_Pieces t hm)⟩)
    goes_Pieces
end Go.Proofs.YtdmbppgogdkpdaaGreatDoor
