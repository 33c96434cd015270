/-
  EvalFinal: its awake tells true (reckoned by the abstract machine). Condition: the table of powers of ten reads as the program lays it.
-/
import Derived.Test.YtccnkkffeokgcaaGreatDoorV28
import Derived.Test.YtccnkkffeokgcaaGreatDoorProg
import Derived.KernelRfl
namespace Go.Proofs.YtccnkkffeokgcaaGreatDoor
open Go.RowKit
namespace AM
theorem small_P : smallB Tryz.prog = true := by kernel_rfl
theorem mixed_P : Tryz.prog.follows .mixedOrders = true := by kernel_rfl
theorem eqs_P : eqsB Tryz.prog [39, 41, 43, 45, 47] = true := by kernel_rfl
def extsP : Exts := []
theorem exts_P : ExtsOk Tryz.prog extsP := fun x hx => by simp [extsP] at hx
theorem ids_P : IdsOk Tryz.prog [] := fun f hf => by simp at hf
def pow10 : List Int := [1, 10, 100, 1000, 10000, 100000, 1000000, 10000000, 100000000, 1000000000, 10000000000, 100000000000, 1000000000000, 10000000000000, 100000000000000, 1000000000000000, 10000000000000000, 100000000000000000, 1000000000000000000, 10000000000000000000]
def tabsP : List (Nat × List Value) := [(3, pow10.map fun z => Value.int .u64 z)]
theorem tabs_P : tabsB tabsP = true := by kernel_rfl
theorem tells_P : tells ((am Tryz.prog (envOf Tryz.prog extsP []) (eqsOf [39, 41, 43, 45, 47]) 1000 [] 60).1 4 [] (tabsH tabsP)) = true := by kernel_rfl
theorem awake4 (w : World) (hw : TabsAt w tabsP) : Calls Tryz.prog 4 #[] w fun e w' => e = .returned (.bool true) ∧ Below w.heap.size w w' :=
  am_tells_args small_P exts_P ids_P eqs_P mixed_P tabs_P tells_P w hw (.nil _)
end AM
end Go.Proofs.YtccnkkffeokgcaaGreatDoor
