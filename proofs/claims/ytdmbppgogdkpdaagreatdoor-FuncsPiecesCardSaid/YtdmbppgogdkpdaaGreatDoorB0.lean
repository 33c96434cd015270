/-
  The five tables of names: whoever asks is handed a new map; its keys are the names. No condition.
-/
import Derived.Test.YtdmbppgogdkpdaaGreatDoorA3
import Derived.StringKeys
namespace Go.Proofs.YtdmbppgogdkpdaaGreatDoor
open Go.RowKit Go.Maps
theorem upon_run {P : Program} {α : Type} {i : Result α} {x : α} {W' : World} {o : Oper} {a : Act} {next : Act → World → Prop} {Q : Exit → Act → World → Prop} {f : α → World → Result Next}
    (hrun : i = .ok x W') (h : Oper.upon P o a next Q (f x W')) : Oper.upon P o a next Q (i.andThen f) := by subst hrun; exact h
/-- Of an entry's value everything is told. -/
def R1 : Value → Option (DataW Value × List MemPlace) := fun v => some (.held v, [])
theorem hbk {W w1 : World} {b : Nat} {o : Obj} (h : W.heap[b]? = some o) (q : Below W.heap.size W w1) : w1.heap[b]? = some o := by
  rw [q.block b (by
    have := h
    rcases Nat.lt_or_ge b W.heap.size with g | g
    · exact g
    · rw [Array.getElem?_eq_none g] at h; cases h)]
  exact h

end Go.Proofs.YtdmbppgogdkpdaaGreatDoor
