/-
  No cell of these rows narrows 'for every input' (looked for: loops, veiled, ifaces, maps, wideKeys, modest, calm, conditions, laid).
  DERIVED. THE GIVEN ROWS OF THIS SEAT. 4 by the template 'for every input the law returns true; each argument reads behind the call as it read before'; 0 by the template 'total and deterministic' (their statements: YtifdpcjfjoekmaaTotals.lean).
  GIVEN WITH THE SEED: the statements are not yours to turn. If you find one false, say at which input.
  Laid BY PROGRAM, IN A SANDBOX (cutbox-rows.mjs): the forced cells as the released guide's own fill.sh prints them over the translation 3513ebd47e96fd23… (all of the seat's roots in one cut). By AI agents, Wed Nov 11 2026. No macro, syntax, notation, axiom, sorry.
-/
import Derived.Test.YtifdpcjfjoekmaaChecked
import GoSem.Claim
import GoSem.ClaimJoined
import GoSem.ClaimMapViews
import Derived.JoinedTies
import Derived.KernelRfl
namespace Go.Proofs.Ytifdpcjfjoekmaa
/- THE CELL 'sum', in the pinned program and in every row, IS THE sha256 OF THE DUMP (.gsa) THAT YtifdpcjfjoekmaaProg.lean LOADS. Nothing in Lean hashes anything: it is a label: what it is worth is what the hold of that sum in a sandbox is worth. -/
noncomputable def Try.pinned : Pinned := { name := "ytifdpcjfjoekmaa", sum := "3513ebd47e96fd23de73bd4211a2bfa7b3db1efbeada2766af62d13f48916f56", checked := Try.checked }
namespace Rows
def none {H : Type} : Left H := { results := [], args := [] }

/-- 'counterpanelaw30.OrderPermutes': WHATEVER THE INPUT: true; the input reads as it did. -/
def orderPermutesSpec : ChangeSpec := { name := "orderPermutes", fn := fun _ => fun
  | [d1, d2] => { results := [.lit (.bool true)], args := [d1, d2] }
  | _ => none }
def orderPermutesRow : OpenClaim := { program := "ytifdpcjfjoekmaa", sum := "3513ebd47e96fd23de73bd4211a2bfa7b3db1efbeada2766af62d13f48916f56", func := "counterpane/counterpanelaw30.OrderPermutes", spec := "orderPermutes", inPlace := ["internal/bytealg.abigen_runtime_cmpstring"], unfollowed := true, recurses := true, apart := false }
def OrderPermutesSaid : Prop := orderPermutesRow.holds Try.pinned (OpenSpec.ofChange orderPermutesSpec)

/-- ITS FALSE NEIGHBOUR: 'it returns false'. Refute it at one input. -/
def orderPermutesWrong : ChangeSpec := { name := "orderPermutes", fn := fun _ => fun
  | [d1, d2] => { results := [.lit (.bool false)], args := [d1, d2] }
  | _ => none }
def OrderPermutesWrongFalsely : Prop := orderPermutesRow.holds Try.pinned (OpenSpec.ofChange orderPermutesWrong)

/-- 'counterpanelaw30.OrderStands': WHATEVER THE INPUT: true; the input reads as it did. -/
def orderStandsSpec : ChangeSpec := { name := "orderStands", fn := fun _ => fun
  | [d1, d2] => { results := [.lit (.bool true)], args := [d1, d2] }
  | _ => none }
def orderStandsRow : OpenClaim := { program := "ytifdpcjfjoekmaa", sum := "3513ebd47e96fd23de73bd4211a2bfa7b3db1efbeada2766af62d13f48916f56", func := "counterpane/counterpanelaw30.OrderStands", spec := "orderStands", inPlace := ["internal/bytealg.abigen_runtime_cmpstring"], unfollowed := true, recurses := true, apart := false }
def OrderStandsSaid : Prop := orderStandsRow.holds Try.pinned (OpenSpec.ofChange orderStandsSpec)

/-- ITS FALSE NEIGHBOUR: 'it returns false'. Refute it at one input. -/
def orderStandsWrong : ChangeSpec := { name := "orderStands", fn := fun _ => fun
  | [d1, d2] => { results := [.lit (.bool false)], args := [d1, d2] }
  | _ => none }
def OrderStandsWrongFalsely : Prop := orderStandsRow.holds Try.pinned (OpenSpec.ofChange orderStandsWrong)

/-- 'counterpanelaw30.OrderTwice': WHATEVER THE INPUT: true; the input reads as it did. -/
def orderTwiceSpec : ChangeSpec := { name := "orderTwice", fn := fun _ => fun
  | [d1, d2, d3] => { results := [.lit (.bool true)], args := [d1, d2, d3] }
  | _ => none }
def orderTwiceRow : OpenClaim := { program := "ytifdpcjfjoekmaa", sum := "3513ebd47e96fd23de73bd4211a2bfa7b3db1efbeada2766af62d13f48916f56", func := "counterpane/counterpanelaw30.OrderTwice", spec := "orderTwice", inPlace := ["internal/bytealg.abigen_runtime_cmpstring"], unfollowed := true, recurses := true, apart := false }
def OrderTwiceSaid : Prop := orderTwiceRow.holds Try.pinned (OpenSpec.ofChange orderTwiceSpec)

/-- ITS FALSE NEIGHBOUR: 'it returns false'. Refute it at one input. -/
def orderTwiceWrong : ChangeSpec := { name := "orderTwice", fn := fun _ => fun
  | [d1, d2, d3] => { results := [.lit (.bool false)], args := [d1, d2, d3] }
  | _ => none }
def OrderTwiceWrongFalsely : Prop := orderTwiceRow.holds Try.pinned (OpenSpec.ofChange orderTwiceWrong)

/-- 'counterpanelaw30.OrderDown': WHATEVER THE INPUT: true; the input reads as it did. -/
def orderDownSpec : ChangeSpec := { name := "orderDown", fn := fun _ => fun
  | [d1, d2] => { results := [.lit (.bool true)], args := [d1, d2] }
  | _ => none }
def orderDownRow : OpenClaim := { program := "ytifdpcjfjoekmaa", sum := "3513ebd47e96fd23de73bd4211a2bfa7b3db1efbeada2766af62d13f48916f56", func := "counterpane/counterpanelaw30.OrderDown", spec := "orderDown", inPlace := ["internal/bytealg.abigen_runtime_cmpstring"], unfollowed := true, recurses := true, apart := false }
def OrderDownSaid : Prop := orderDownRow.holds Try.pinned (OpenSpec.ofChange orderDownSpec)

/-- ITS FALSE NEIGHBOUR: 'it returns false'. Refute it at one input. -/
def orderDownWrong : ChangeSpec := { name := "orderDown", fn := fun _ => fun
  | [d1, d2] => { results := [.lit (.bool false)], args := [d1, d2] }
  | _ => none }
def OrderDownWrongFalsely : Prop := orderDownRow.holds Try.pinned (OpenSpec.ofChange orderDownWrong)

/- THE SECOND FORM. 'bulk': how many values and letters a reading holds, each counted each time it is reached (what is shared counts as often as it is met; a slice's spare places count too). A statement '..UptoSaid' is the law's where the arguments, and the package variables that the reading takes, are together of bulk at most 1048576: NARROWER than '..Said'. Prove '..Said' where nothing that the law and all that it calls make is longer than what came in: it says more and counts as full. Else prove '..UptoSaid'. A law counts once. -/
mutual
def uptoBulk {H : Type} : DataW H → Nat
  | .lit (.string bytes) => bytes.length + 1
  | .lit _ => 1
  | .nil => 1
  | .ptr d => uptoBulk d + 1
  | .slice elems spare => uptoBulkAll elems + uptoBulkAll spare + 1
  | .agg parts => uptoBulkAll parts + 1
  | .iface _ d => uptoBulk d + 1
  | .map entries => uptoBulkEntries entries + 1
  | .held _ => 1
def uptoBulkAll {H : Type} : List (DataW H) → Nat
  | [] => 0
  | d :: r => uptoBulk d + uptoBulkAll r
def uptoBulkEntries {H : Type} : List (Lit × DataW H) → Nat
  | [] => 0
  | x :: r => uptoBulkEntry x + uptoBulkEntries r
def uptoBulkEntry {H : Type} : Lit × DataW H → Nat
  | (.string bytes, d) => bytes.length + uptoBulk d + 1
  | (_, d) => uptoBulk d + 1
 end
def uptoSmall : (H : Type) → List (DataW H) → Bool := fun _ ds => decide (uptoBulkAll ds ≤ 1048576)
def OpenSpec.upto (s : _root_.Go.ChangeSpec) : _root_.Go.OpenSpec := { _root_.Go.OpenSpec.ofChange s with cond := some uptoSmall }

/-- 'counterpanelaw30.OrderPermutes', WHERE WHAT IT READS IS OF BULK AT MOST 1048576: true; the input reads as it did. -/
def orderPermutesUptoRow : OpenClaim := { program := "ytifdpcjfjoekmaa", sum := "3513ebd47e96fd23de73bd4211a2bfa7b3db1efbeada2766af62d13f48916f56", func := "counterpane/counterpanelaw30.OrderPermutes", spec := "orderPermutes", inPlace := ["internal/bytealg.abigen_runtime_cmpstring"], unfollowed := true, recurses := true, apart := false, narrowed := true }
def OrderPermutesUptoSaid : Prop := orderPermutesUptoRow.holds Try.pinned (OpenSpec.upto orderPermutesSpec)

/-- 'counterpanelaw30.OrderStands', WHERE WHAT IT READS IS OF BULK AT MOST 1048576: true; the input reads as it did. -/
def orderStandsUptoRow : OpenClaim := { program := "ytifdpcjfjoekmaa", sum := "3513ebd47e96fd23de73bd4211a2bfa7b3db1efbeada2766af62d13f48916f56", func := "counterpane/counterpanelaw30.OrderStands", spec := "orderStands", inPlace := ["internal/bytealg.abigen_runtime_cmpstring"], unfollowed := true, recurses := true, apart := false, narrowed := true }
def OrderStandsUptoSaid : Prop := orderStandsUptoRow.holds Try.pinned (OpenSpec.upto orderStandsSpec)

/-- 'counterpanelaw30.OrderTwice', WHERE WHAT IT READS IS OF BULK AT MOST 1048576: true; the input reads as it did. -/
def orderTwiceUptoRow : OpenClaim := { program := "ytifdpcjfjoekmaa", sum := "3513ebd47e96fd23de73bd4211a2bfa7b3db1efbeada2766af62d13f48916f56", func := "counterpane/counterpanelaw30.OrderTwice", spec := "orderTwice", inPlace := ["internal/bytealg.abigen_runtime_cmpstring"], unfollowed := true, recurses := true, apart := false, narrowed := true }
def OrderTwiceUptoSaid : Prop := orderTwiceUptoRow.holds Try.pinned (OpenSpec.upto orderTwiceSpec)

/-- 'counterpanelaw30.OrderDown', WHERE WHAT IT READS IS OF BULK AT MOST 1048576: true; the input reads as it did. -/
def orderDownUptoRow : OpenClaim := { program := "ytifdpcjfjoekmaa", sum := "3513ebd47e96fd23de73bd4211a2bfa7b3db1efbeada2766af62d13f48916f56", func := "counterpane/counterpanelaw30.OrderDown", spec := "orderDown", inPlace := ["internal/bytealg.abigen_runtime_cmpstring"], unfollowed := true, recurses := true, apart := false, narrowed := true }
def OrderDownUptoSaid : Prop := orderDownUptoRow.holds Try.pinned (OpenSpec.upto orderDownSpec)

end Rows
end Go.Proofs.Ytifdpcjfjoekmaa
