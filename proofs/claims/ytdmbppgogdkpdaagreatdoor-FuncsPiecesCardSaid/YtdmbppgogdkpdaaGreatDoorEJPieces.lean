/-
  The closed facts of the row of FuncsPieces, together. No condition.
-/
import Derived.Test.YtdmbppgogdkpdaaGreatDoorEFPieces
namespace Go.Proofs.YtdmbppgogdkpdaaGreatDoor
theorem and_tPieces {a b : Bool} (h : a = true) (k : b = true) : (a && b) = true := by rw [h, k]; rfl
set_option maxRecDepth 100000 in
theorem closed_Pieces : joinedFacts Tryz.prog 5 Tryz.f5 Rows.funcsPiecesSpec Rows.funcsPiecesRow = true := by
  unfold joinedFacts
  refine and_tPieces ?_ fact31_Pieces
  refine and_tPieces ?_ fact30_Pieces
  refine and_tPieces ?_ fact29_Pieces
  refine and_tPieces ?_ fact28_Pieces
  refine and_tPieces ?_ fact27_Pieces
  refine and_tPieces ?_ fact26_Pieces
  refine and_tPieces ?_ fact25
  refine and_tPieces ?_ fact24
  refine and_tPieces ?_ fact23_Pieces
  refine and_tPieces ?_ fact22_Pieces
  refine and_tPieces ?_ fact21_Pieces
  refine and_tPieces ?_ fact20_Pieces
  refine and_tPieces ?_ fact19_Pieces
  refine and_tPieces ?_ fact18_Pieces
  refine and_tPieces ?_ fact17_Pieces
  refine and_tPieces ?_ fact16_Pieces
  refine and_tPieces ?_ fact15_Pieces
  refine and_tPieces ?_ fact14_Pieces
  refine and_tPieces ?_ fact13_Pieces
  refine and_tPieces ?_ fact12_Pieces
  refine and_tPieces ?_ fact11_Pieces
  refine and_tPieces ?_ fact10_Pieces
  refine and_tPieces ?_ fact9_Pieces
  refine and_tPieces ?_ fact8
  refine and_tPieces ?_ fact7_Pieces
  refine and_tPieces ?_ fact6
  refine and_tPieces ?_ fact5_Pieces
  refine and_tPieces ?_ fact4_Pieces
  refine and_tPieces ?_ fact3_Pieces
  refine and_tPieces ?_ fact2
  refine and_tPieces ?_ fact1
  exact fact0_Pieces
end Go.Proofs.YtdmbppgogdkpdaaGreatDoor
