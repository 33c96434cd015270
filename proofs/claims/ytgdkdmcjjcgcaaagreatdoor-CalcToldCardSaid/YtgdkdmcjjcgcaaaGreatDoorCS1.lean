/-
  Five cells are sorted, from each of thirty orders. No condition.
-/
import Derived.Test.YtgdkdmcjjcgcaaaGreatDoorCS
set_option linter.unusedSectionVars false
namespace Go.Proofs.YtgdkdmcjjcgcaaaGreatDoor
namespace AM
open Go.RowKit
variable [Toks]
theorem srt3_ok : (srt3.all fun x => givesV ((amK Tryz.prog).1 299 asS x.1.H) x.2) = true := by kernel_rfl
theorem srt4_ok : (srt4.all fun x => givesV ((amK Tryz.prog).1 299 asS x.1.H) x.2) = true := by kernel_rfl
theorem srt5_ok : (srt5.all fun x => givesV ((amK Tryz.prog).1 299 asS x.1.H) x.2) = true := by kernel_rfl
end AM
end Go.Proofs.YtgdkdmcjjcgcaaaGreatDoor
