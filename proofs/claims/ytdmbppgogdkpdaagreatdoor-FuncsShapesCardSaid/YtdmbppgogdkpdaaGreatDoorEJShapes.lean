/-
  The closed facts of the row of FuncsShapes, together. No condition.
-/
import Derived.Test.YtdmbppgogdkpdaaGreatDoorEFShapes
namespace Go.Proofs.YtdmbppgogdkpdaaGreatDoor
theorem and_tShapes {a b : Bool} (h : a = true) (k : b = true) : (a && b) = true := by rw [h, k]; rfl
set_option maxRecDepth 100000 in
theorem closed_Shapes : joinedFacts Tryz.prog 4 Tryz.f4 Rows.funcsShapesSpec Rows.funcsShapesRow = true := by
  unfold joinedFacts
  refine and_tShapes ?_ fact31_Shapes
  refine and_tShapes ?_ fact30_Shapes
  refine and_tShapes ?_ fact29_Shapes
  refine and_tShapes ?_ fact28_Shapes
  refine and_tShapes ?_ fact27_Shapes
  refine and_tShapes ?_ fact26_Shapes
  refine and_tShapes ?_ fact25
  refine and_tShapes ?_ fact24
  refine and_tShapes ?_ fact23_Shapes
  refine and_tShapes ?_ fact22_Shapes
  refine and_tShapes ?_ fact21_Shapes
  refine and_tShapes ?_ fact20_Shapes
  refine and_tShapes ?_ fact19_Shapes
  refine and_tShapes ?_ fact18_Shapes
  refine and_tShapes ?_ fact17_Shapes
  refine and_tShapes ?_ fact16_Shapes
  refine and_tShapes ?_ fact15_Shapes
  refine and_tShapes ?_ fact14_Shapes
  refine and_tShapes ?_ fact13_Shapes
  refine and_tShapes ?_ fact12_Shapes
  refine and_tShapes ?_ fact11_Shapes
  refine and_tShapes ?_ fact10_Shapes
  refine and_tShapes ?_ fact9_Shapes
  refine and_tShapes ?_ fact8
  refine and_tShapes ?_ fact7_Shapes
  refine and_tShapes ?_ fact6
  refine and_tShapes ?_ fact5_Shapes
  refine and_tShapes ?_ fact4_Shapes
  refine and_tShapes ?_ fact3_Shapes
  refine and_tShapes ?_ fact2
  refine and_tShapes ?_ fact1
  exact fact0_Shapes
end Go.Proofs.YtdmbppgogdkpdaaGreatDoor
