/-
  The numbers of arguments, as the switches tell them: their contracts. No condition.
-/
import Derived.Test.YtdmbppgogdkpdaaGreatDoorA0
import Derived.Test.YtdmbppgogdkpdaaGreatDoorA1
namespace Go.Proofs.YtdmbppgogdkpdaaGreatDoor
open Go.RowKit

end Go.Proofs.YtdmbppgogdkpdaaGreatDoor
