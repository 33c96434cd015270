/-
  The closed facts of the row of FuncsAll, together. No condition.
-/
import Derived.Test.YtdmbppgogdkpdaaGreatDoorEFAll
namespace Go.Proofs.YtdmbppgogdkpdaaGreatDoor
theorem and_tAll {a b : Bool} (h : a = true) (k : b = true) : (a && b) = true := by rw [h, k]; rfl
set_option maxRecDepth 100000 in
theorem closed_All : joinedFacts Tryz.prog 6 Tryz.f6 Rows.funcsAllSpec Rows.funcsAllRow = true := by
  unfold joinedFacts
  refine and_tAll ?_ fact31_All
  refine and_tAll ?_ fact30_All
  refine and_tAll ?_ fact29_All
  refine and_tAll ?_ fact28_All
  refine and_tAll ?_ fact27_All
  refine and_tAll ?_ fact26_All
  refine and_tAll ?_ fact25
  refine and_tAll ?_ fact24
  refine and_tAll ?_ fact23_All
  refine and_tAll ?_ fact22_All
  refine and_tAll ?_ fact21_All
  refine and_tAll ?_ fact20_All
  refine and_tAll ?_ fact19_All
  refine and_tAll ?_ fact18_All
  refine and_tAll ?_ fact17_All
  refine and_tAll ?_ fact16_All
  refine and_tAll ?_ fact15_All
  refine and_tAll ?_ fact14_All
  refine and_tAll ?_ fact13_All
  refine and_tAll ?_ fact12_All
  refine and_tAll ?_ fact11_All
  refine and_tAll ?_ fact10_All
  refine and_tAll ?_ fact9_All
  refine and_tAll ?_ fact8
  refine and_tAll ?_ fact7_All
  refine and_tAll ?_ fact6
  refine and_tAll ?_ fact5_All
  refine and_tAll ?_ fact4_All
  refine and_tAll ?_ fact3_All
  refine and_tAll ?_ fact2
  refine and_tAll ?_ fact1
  exact fact0_All
end Go.Proofs.YtdmbppgogdkpdaaGreatDoor
