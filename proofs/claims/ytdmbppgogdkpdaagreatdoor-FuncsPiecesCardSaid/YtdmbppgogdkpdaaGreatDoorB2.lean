/-
  The table of the logic: its entry for NOT is a closure that holds 'not'. No condition.
-/
import Derived.Test.YtdmbppgogdkpdaaGreatDoorB0
import Derived.Sort.KeysCollected
namespace Go.Proofs.YtdmbppgogdkpdaaGreatDoor
open Go.RowKit Go.Maps Go.Sort
theorem new_lies (W : World) (o : Obj) : (W.alloc o).heap[W.heap.size]? = some o := Array.getElem?_push_size
end Go.Proofs.YtdmbppgogdkpdaaGreatDoor
