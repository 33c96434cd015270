/-
  Tables: maps keyed by names that a literal fills: the law at the insert; the makers of closures. No condition.
-/
import Derived.Test.YtdmbppgogdkpdaaGreatDoorA2
import Derived.Maps.OwnSet
import Derived.Lib.Hide
namespace Go.Proofs.YtdmbppgogdkpdaaGreatDoor
open Go.RowKit Go.Maps

section
variable {H : Type} {R : Value → Option (DataW H × List MemPlace)} {w W W' : World} {b n : Nat} {D : DataW H}
end

end Go.Proofs.YtdmbppgogdkpdaaGreatDoor
