/-
  The closed facts of the row of CalcTyped (at bulk at most 1048576), together. No condition.
-/
import Derived.Test.YtoicnghjjgkebaaGreatDoorIF0
import Derived.Test.YtoicnghjjgkebaaGreatDoorIF1
set_option linter.unusedSectionVars false
set_option linter.unusedSimpArgs false
set_option linter.unusedVariables false
set_option linter.unnecessarySimpa false
namespace Go.Proofs.YtoicnghjjgkebaaGreatDoor
theorem and_t {a b : Bool} (h : a = true) (k : b = true) : (a && b) = true := by rw [h, k]; rfl
set_option maxRecDepth 100000 in
theorem closed : joinedFacts Tryz.prog 3 Tryz.f3 (Rows.OpenSpec.upto Rows.calcTypedSpec).bare Rows.calcTypedUptoRow = true := by
  unfold joinedFacts
  refine and_t ?_ fact31
  refine and_t ?_ fact30
  refine and_t ?_ fact29
  refine and_t ?_ fact28
  refine and_t ?_ fact27
  refine and_t ?_ fact26
  refine and_t ?_ fact25
  refine and_t ?_ fact24
  refine and_t ?_ fact23
  refine and_t ?_ fact22
  refine and_t ?_ fact21
  refine and_t ?_ fact20
  refine and_t ?_ fact19
  refine and_t ?_ fact18
  refine and_t ?_ fact17
  refine and_t ?_ fact16
  refine and_t ?_ fact15
  refine and_t ?_ fact14
  refine and_t ?_ fact13
  refine and_t ?_ fact12
  refine and_t ?_ fact11
  refine and_t ?_ fact10
  refine and_t ?_ fact9
  refine and_t ?_ fact8
  refine and_t ?_ fact7
  refine and_t ?_ fact6
  refine and_t ?_ fact5
  refine and_t ?_ fact4
  refine and_t ?_ fact3
  refine and_t ?_ fact2
  refine and_t ?_ fact1
  exact fact0
end Go.Proofs.YtoicnghjjgkebaaGreatDoor
