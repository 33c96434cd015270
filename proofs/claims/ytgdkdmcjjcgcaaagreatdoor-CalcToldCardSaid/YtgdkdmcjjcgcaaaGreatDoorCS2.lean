/-
  Five cells are sorted, from each of thirty orders. No condition.
-/
import Derived.Test.YtgdkdmcjjcgcaaaGreatDoorCS
set_option linter.unusedSectionVars false
namespace Go.Proofs.YtgdkdmcjjcgcaaaGreatDoor
namespace AM
open Go.RowKit
variable [Toks]
theorem srt6_ok : (srt6.all fun x => givesV ((amK Tryz.prog).1 299 asS x.1.H) x.2) = true := by kernel_rfl
theorem srt7_ok : (srt7.all fun x => givesV ((amK Tryz.prog).1 299 asS x.1.H) x.2) = true := by kernel_rfl
theorem srt8_ok : (srt8.all fun x => givesV ((amK Tryz.prog).1 299 asS x.1.H) x.2) = true := by kernel_rfl
end AM
end Go.Proofs.YtgdkdmcjjcgcaaaGreatDoor
