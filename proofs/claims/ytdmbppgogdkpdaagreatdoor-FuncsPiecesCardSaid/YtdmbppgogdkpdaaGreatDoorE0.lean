/-
  The opening and closing of a call of this seat: the program's own switch, the listed variables laid, the texts that come in. No condition.
-/
import Derived.Test.YtdmbppgogdkpdaaGreatDoorRows
import Derived.ProofKit
import Derived.ChangeMaps5
import Derived.LaidMore
import Derived.OpenShut
import Derived.Lay
import Derived.Stop.Joined
namespace Go.Proofs.YtdmbppgogdkpdaaGreatDoor
open Go.ChangeShapes Go.WideShapes Go.ChangeAt Go.WideMaps Go.WideElems Go.RowKit Go.ChangeMaps
theorem tryzOwn : ownKnob Tryz.prog.godebug = none := by kernel_rfl
theorem laid_shaped (os : Os) : (World.laidAll Tryz.prog os Rows.funcsNamesRow.laid).Shaped Tryz.prog :=
  World.shaped_of_ZipB (by kernel_rfl) (by kernel_rfl)
set_option maxRecDepth 100000 in
theorem laid_met (os : Os) (args : Array Value) : laidMetH Tryz.prog Rows.funcsNamesRow.laid ((World.laidAll Tryz.prog os Rows.funcsNamesRow.laid).forCall (fun _ _ => 0) ⟨#[], args, []⟩).memory := by
  rw [MakeChecks.laidMetH_plain _ _ _ (by kernel_rfl)]
  exact laidMet_laidAll _ (by kernel_rfl) (by kernel_rfl)
end Go.Proofs.YtdmbppgogdkpdaaGreatDoor
