/-
  The closed facts of the row of FuncsNames, together. No condition.
-/
import Derived.Test.YtdmbppgogdkpdaaGreatDoorEFNames
namespace Go.Proofs.YtdmbppgogdkpdaaGreatDoor
theorem and_tNames {a b : Bool} (h : a = true) (k : b = true) : (a && b) = true := by rw [h, k]; rfl
set_option maxRecDepth 100000 in
theorem closed_Names : joinedFacts Tryz.prog 3 Tryz.f3 Rows.funcsNamesSpec Rows.funcsNamesRow = true := by
  unfold joinedFacts
  refine and_tNames ?_ fact31_Names
  refine and_tNames ?_ fact30_Names
  refine and_tNames ?_ fact29_Names
  refine and_tNames ?_ fact28_Names
  refine and_tNames ?_ fact27_Names
  refine and_tNames ?_ fact26_Names
  refine and_tNames ?_ fact25
  refine and_tNames ?_ fact24
  refine and_tNames ?_ fact23_Names
  refine and_tNames ?_ fact22_Names
  refine and_tNames ?_ fact21_Names
  refine and_tNames ?_ fact20_Names
  refine and_tNames ?_ fact19_Names
  refine and_tNames ?_ fact18_Names
  refine and_tNames ?_ fact17_Names
  refine and_tNames ?_ fact16_Names
  refine and_tNames ?_ fact15_Names
  refine and_tNames ?_ fact14_Names
  refine and_tNames ?_ fact13_Names
  refine and_tNames ?_ fact12_Names
  refine and_tNames ?_ fact11_Names
  refine and_tNames ?_ fact10_Names
  refine and_tNames ?_ fact9_Names
  refine and_tNames ?_ fact8
  refine and_tNames ?_ fact7_Names
  refine and_tNames ?_ fact6
  refine and_tNames ?_ fact5_Names
  refine and_tNames ?_ fact4_Names
  refine and_tNames ?_ fact3_Names
  refine and_tNames ?_ fact2
  refine and_tNames ?_ fact1
  exact fact0_Names
end Go.Proofs.YtdmbppgogdkpdaaGreatDoor
