/-
  EvalFinalCardSaid, proved: for every input the law returns true, and each argument reads as it did; what the row lists is tied to the program's text. Condition: the listed tables read as the program lays them (tied).
-/
import Derived.Test.YtccnkkffeokgcaaGreatDoorEA
import Derived.Test.YtccnkkffeokgcaaGreatDoorEO
import Derived.Test.YtccnkkffeokgcaaGreatDoorIJ
import Derived.Test.YtccnkkffeokgcaaGreatDoorIG
import Derived.Test.YtccnkkffeokgcaaGreatDoorTie
import Derived.ChangeMaps5
import Derived.LaidMore
import Derived.OpenShut
import Derived.Lay
import Derived.Stop.Joined
import Derived.Stop.LaidErr
import Derived.Lib.LaidTab
import Derived.Lib.SmallJoins
import Derived.Carry
import Derived.ChangeSame
namespace Go.Proofs.YtccnkkffeokgcaaGreatDoor
open Go.ChangeShapes Go.WideShapes Go.ChangeAt Go.WideMaps Go.WideElems Go.RowKit Go.ChangeMaps Go.Joins
theorem own_P : ownKnob Tryz.prog.godebug = none := by kernel_rfl
theorem tab_cells {P : Program} {W : World} {name : String} {k : IntKind} {zs : List Int} {g : Nat} (h : Lib.TabIs P W name k zs) (hg : P.globalNamed name = some g) (i : Nat) (v : Value) (hv : (zs.map fun z => Value.int k z)[i]? = some v) : W.cell? ⟨g, i, none⟩ = some v := by
  rw [List.getElem?_map] at hv
  cases hz : zs[i]? with
  | none => rw [hz] at hv; cases hv
  | some z =>
    rw [hz] at hv; cases hv
    rw [h.cell hg i (List.getElem?_eq_some_iff.1 hz).1]
    simp [List.getD, hz]
theorem laid_out : laidOutB Tryz.prog = true := by kernel_rfl
theorem tab_P {W : World} (hL : laidMetH Tryz.prog Rows.evalFinalRow.laid W) : AM.TabsAt W AM.tabsP := by
  rw [MakeChecks.laidMetH_plain _ _ _ (by kernel_rfl)] at hL
  have h3 : laidMet Tryz.prog [("internal/strconv.uint64pow10", Lib.tabData .u64 AM.pow10)] W := laidMet.tail (laidMet.tail hL)
  have h := Lib.tabIs_of_head (g := 3) (t := 279) (e := 209) (n := 20) (by kernel_rfl) (by kernel_rfl) Tryz.underlying279 Tryz.underlying209 (by kernel_rfl) (by kernel_rfl) h3
  intro x hx i v hv
  obtain rfl := List.mem_singleton.1 hx
  exact tab_cells h (by kernel_rfl) i v hv
theorem tabs_next {W W' : World} (h : AM.TabsAt W AM.tabsP) (hb : Below W.heap.size W W') : AM.TabsAt W' AM.tabsP := fun x hx i v hv =>
  (hb.cell (World.block_lt_of_cell? W _ (h x hx i v hv))).trans (h x hx i v hv)
theorem walk_P (r c : Int) (A : Option Addr) (n ca : Nat) (l : List Val) (s : ByteArray) (W : World) (hR : ManyR Val.cs 6 W A l) (hn : l.length = n) (hg : ∀ z ∈ l, FitsV z) (hL : laidMetH Tryz.prog Rows.evalFinalRow.laid W) :
    Calls Tryz.prog 3 #[.agg #[.int .i64 r, .int .i64 c, .slice A n ca], .string s] W fun e W' => e = .returned (.bool true) ∧ Below W.heap.size W W' :=
  law_c r c A n ca l s W hR hn hg (fun W' hW => AM.awake4 W' (tabs_next (tab_P hL) hW))

set_option maxRecDepth 100000 in
theorem shaped_P (os : Os) : (World.laidAll Tryz.prog os Rows.evalFinalRow.laid).Shaped Tryz.prog := World.shaped_of_ZipB (by kernel_rfl) (by kernel_rfl)
set_option maxRecDepth 100000 in
theorem met_P (os : Os) (args : Array Value) : laidMetH Tryz.prog Rows.evalFinalRow.laid ((World.laidAll Tryz.prog os Rows.evalFinalRow.laid).forCall (fun _ _ => 0) ⟨#[], args, []⟩).memory := by
  rw [MakeChecks.laidMetH_plain _ _ _ (by kernel_rfl)]
  exact laidMet_laidAll _ (by kernel_rfl) (by kernel_rfl)
set_option maxRecDepth 100000 in
theorem evalFinal_lifted (os : Os) (started : os.Started) (H : Type) (enc : TypeId × Value → H) :
    ReturnsInHanded {} Tryz.checked os 3 .any (fun w args => (Rows.evalFinalSpec.pre enc Tryz.prog Tryz.f3 [] false w args ∧ laidMetH Tryz.prog Rows.evalFinalRow.laid w) ∧ sizedMet enc Tryz.prog Tryz.f3 (OpenSpec.ofChange Rows.evalFinalSpec) false w args)
      (Rows.evalFinalSpec.post enc Tryz.prog Tryz.f3 false true false false) := by
  refine returnsInHanded_of_change_and (C := Tryz.checked) (X := fun w _ => laidMetH Tryz.prog Rows.evalFinalRow.laid w) (fun _ _ _ hh h => h.of_heap hh) own_P started (by kernel_rfl) Tryz.func3
    (ChangeSpec.witness_shaped (enc := enc) (C := Tryz.checked) (os := os) (X := fun w _ => laidMetH Tryz.prog Rows.evalFinalRow.laid w) false (World.laidAll Tryz.prog os Rows.evalFinalRow.laid) #[.agg #[.int .i64 0, .int .i64 0, .slice none 0 0], .string ByteArray.empty] 8 (World.laidAll_os _ _ _) (shaped_P os) (by kernel_rfl) (by kernel_rfl) (by kernel_rfl) (met_P os _)) ?_
  intro W base args ds gs before hval0 hW _ _ hL _
  have hval : ∀ (j : Nat) t v, Tryz.f3.params[j]? = some t → args[j]? = some v → Value.okWide Tryz.prog W .any base t v := hval0
  have hW' := hW
  obtain ⟨p, q, hA0, hV, rfl, hfz, hnd⟩ := hW
  have hA : DataW.TrodAll enc Tryz.prog W 0 (fun _ => true) true Tryz.f3.params.toList args.toList ds p := hA0
  rw [Tryz.params3] at hA hval
  obtain ⟨v0, v1, d0, d1, p0, p1, rfl, rfl, rfl, h0, h1⟩ := trodAll_two hA
  obtain ⟨rfl, rfl⟩ := trodVars_none hV
  obtain ⟨r, c, A, n, ca, l, rfl, hn, hR, hg⟩ := open_array (hval 0 24 v0 rfl rfl) h0
  obtain ⟨s, rfl, rfl, rfl, hs⟩ := open_string Tryz.underlying9 (hval 1 9 v1 rfl rfl) h1
  clear hA0 hval0
  simp only [List.append_nil] at hW'
  refine (walk_P r c A n ca l s W hR hn hg hL).mono fun e W' ⟨he, hnx⟩ => ?_
  subst he
  have hlt : ∀ x ∈ p0, x.block < W.heap.size := fun x hx => by simpa using hW'.lt x hx
  refine ⟨_, rfl, _, _, _, [], p0, [], hW', ?_, ?_, rfl, hnx.frame _, fun h => by cases h⟩
  · exact trodAll_mk1 (shut_bool Tryz.underlying4 true)
  · have h3 := trodAll_mk2 (Below.trod laid_out (by kernel_rfl) (of_decide_eq_true (by kernel_rfl)) h0 hnx (fun x hx => hlt x hx)) (shut_string Tryz.underlying9 hs)
    simp only [List.append_nil] at h3
    exact h3
theorem evalFinal_holds : Rows.EvalFinalSaid :=
  OpenClaim.holds_of_wide 3 Tryz.f3 rfl rfl rfl rfl rfl rfl rfl ⟨rfl, rfl, rfl, rfl, rfl⟩ rfl rfl rfl rfl rfl named_P Tryz.func3 closed inst_P wrap_P
    (fun os started H enc _ => evalFinal_lifted os started H enc)
theorem evalFinalCard_holds : Rows.EvalFinalCardSaid :=
  Claim7.holds_tied_plain_at .later [] [.data, .data, .data] true (true, "05ee069b8c27d9ece70ee717abb9f8e9af06d97c0030d9be6afc3ab24fe309c7") false
    evalFinal_holds (fun _ h => by cases h) text_P (fun _ h => by cases h) evalFinal_row_tie rfl ⟨rfl, rfl⟩ main_P rfl
    (fun f fn hf hfn => by
      obtain rfl : f = 3 := Option.some.inj (named_P.symm.trans hf) |>.symm
      obtain rfl : fn = Tryz.f3 := (Option.some.inj (Tryz.func3.symm.trans hfn)).symm
      exact ⟨looks_P, fun j t ht => by
        rw [Tryz.params3] at ht
        have hm : t ∈ [24,9] := by simpa using Array.mem_of_getElem? ht
        exact (show Tryz.prog.wantsStandIn t = false by simpa using List.all_eq_true.1 stands_P t hm)⟩)
    goes_P
end Go.Proofs.YtccnkkffeokgcaaGreatDoor
