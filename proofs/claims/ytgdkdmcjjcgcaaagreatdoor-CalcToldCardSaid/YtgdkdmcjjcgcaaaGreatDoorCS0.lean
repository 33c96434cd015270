/-
  Five cells are sorted, from each of thirty orders. No condition.
-/
import Derived.Test.YtgdkdmcjjcgcaaaGreatDoorCS
set_option linter.unusedSectionVars false
namespace Go.Proofs.YtgdkdmcjjcgcaaaGreatDoor
namespace AM
open Go.RowKit
variable [Toks]
theorem srt0_ok : (srt0.all fun x => givesV ((amK Tryz.prog).1 299 asS x.1.H) x.2) = true := by kernel_rfl
theorem srt1_ok : (srt1.all fun x => givesV ((amK Tryz.prog).1 299 asS x.1.H) x.2) = true := by kernel_rfl
theorem srt2_ok : (srt2.all fun x => givesV ((amK Tryz.prog).1 299 asS x.1.H) x.2) = true := by kernel_rfl
end AM
end Go.Proofs.YtgdkdmcjjcgcaaaGreatDoor
