/-
  The five tables of names: whoever asks is handed a new map; its keys are the names. No condition.
-/
import Derived.Test.YtdmbppgogdkpdaaGreatDoorA3
import Derived.StringKeys
namespace Go.Proofs.YtdmbppgogdkpdaaGreatDoor
open Go.RowKit Go.Maps
theorem upon_run {P : Program} {α : Type} {i : Result α} {x : α} {W' : World} {o : Oper} {a : Act} {next : Act → World → Prop} {Q : Exit → Act → World → Prop} {f : α → World → Result Next}
    (hrun : i = .ok x W') (h : Oper.upon P o a next Q (f x W')) : Oper.upon P o a next Q (i.andThen f) := by subst hrun; exact h
set_option maxRecDepth 100000 in
theorem upon_insert {H : Type} {R : Value → Option (DataW H × List MemPlace)} {w W : World} {b n : Nat} {D : DataW H} {t : TypeId} {e : TypeId} {o : Oper} {a : Act} {next : Act → World → Prop} {Q : Exit → Act → World → Prop} {f : Unit → World → Result Next}
    (hT : Tab R w b n D W) (ht : Tryz.prog.underlying t = some (.map 9 e)) (hn : n < maxLen) (key val : Value) (kl : Lit) (hkey : keyOf Tryz.prog 9 key = some kl) (d : DataW H) (ps : List MemPlace) (hval : R val = some (d, ps))
    (h : ∀ W', Tab R w b (n + 1) (D.put kl d) W' → Oper.upon Tryz.prog o a next Q (f () W')) :
    Oper.upon Tryz.prog o a next Q ((Sem.run Tryz.prog (Instr.mapUpdate t (.map (some b)) key val) W).andThen f) := by
  obtain ⟨W', hrun, r1, r2⟩ := hT.own.update law9 ht hn hkey hval
  exact upon_run hrun (h W' (hT.put r1 r2))
theorem Tab.nextA {H : Type} {R : Value → Option (DataW H × List MemPlace)} {w W W' : World} {b n : Nat} {D : DataW H} (h : Tab R w b n D W) {o : Obj} (q : Below (W.alloc o).heap.size (W.alloc o) W') : Tab R w b n D W' :=
  (h.next ((Below.refl _ _).alloc (Nat.le_refl _) o)).next q
/-- The map that holds these names, put in this order. -/
def dOf (l : List (List UInt8)) : DataW Unit := l.foldl (fun d k => d.put (.string k) .nil) (.map [])
/-- Of an entry's value everything is told. -/
def R1 : Value → Option (DataW Value × List MemPlace) := fun v => some (.held v, [])
theorem hbk {W w1 : World} {b : Nat} {o : Obj} (h : W.heap[b]? = some o) (q : Below W.heap.size W w1) : w1.heap[b]? = some o := by
  rw [q.block b (by
    have := h
    rcases Nat.lt_or_ge b W.heap.size with g | g
    · exact g
    · rw [Array.getElem?_eq_none g] at h; cases h)]
  exact h

/-- The names of table 86, in the order in which it lays them. -/
def names86 : List (List UInt8) := [[83, 85, 77], [80, 82, 79, 68, 85, 67, 84], [77, 73, 78], [77, 65, 88], [67, 79, 85, 78, 84], [67, 79, 85, 78, 84, 65], [65, 86, 69, 82, 65, 71, 69], [77, 69, 68, 73, 65, 78], [83, 85, 77, 80, 82, 79, 68, 85, 67, 84], [76, 65, 82, 71, 69], [83, 77, 65, 76, 76], [67, 79, 85, 78, 84, 73, 70], [83, 85, 77, 73, 70], [65, 66, 83], [83, 73, 71, 78], [73, 78, 84], [82, 79, 85, 78, 68], [77, 79, 68], [80, 79, 87, 69, 82]]
/-- The names of table 90, in the order in which it lays them. -/
def names90 : List (List UInt8) := [[76, 69, 78], [76, 69, 70, 84], [82, 73, 71, 72, 84], [77, 73, 68], [85, 80, 80, 69, 82], [76, 79, 87, 69, 82], [84, 82, 73, 77], [70, 73, 78, 68], [83, 85, 66, 83, 84, 73, 84, 85, 84, 69], [82, 69, 80, 84], [69, 88, 65, 67, 84], [86, 65, 76, 85, 69], [67, 79, 78, 67, 65, 84], [84, 69, 88, 84, 74, 79, 73, 78], [84, 69, 88, 84, 83, 80, 76, 73, 84]]
/-- The names of table 96, in the order in which it lays them. -/
def names96 : List (List UInt8) := [[73, 78, 68, 69, 88], [77, 65, 84, 67, 72], [88, 76, 79, 79, 75, 85, 80], [86, 76, 79, 79, 75, 85, 80], [72, 76, 79, 79, 75, 85, 80]]
/-- The names of table 99, in the order in which it lays them. -/
def names99 : List (List UInt8) := [[67, 79, 76, 85, 77, 78, 83], [68, 82, 79, 80], [70, 73, 76, 84, 69, 82], [72, 83, 84, 65, 67, 75], [77, 77, 85, 76, 84], [82, 79, 87, 83], [83, 69, 81, 85, 69, 78, 67, 69], [83, 79, 82, 84], [84, 65, 75, 69], [84, 79, 67, 79, 76], [84, 79, 82, 79, 87], [84, 82, 65, 78, 83, 80, 79, 83, 69], [85, 78, 73, 81, 85, 69], [86, 83, 84, 65, 67, 75]]
/-- The names of table 93, in the order in which it lays them. -/
def names93 : List (List UInt8) := [[65, 78, 68], [79, 82], [88, 79, 82], [78, 79, 84], [73, 83, 66, 76, 65, 78, 75], [73, 83, 78, 85, 77, 66, 69, 82], [73, 83, 84, 69, 88, 84], [73, 83, 76, 79, 71, 73, 67, 65, 76], [73, 83, 69, 82, 82, 79, 82], [78, 65]]
end Go.Proofs.YtdmbppgogdkpdaaGreatDoor
