/-
  package shape: build for Turn: its contract. Condition: the shape holds at most 4096 values; what the function tells of each place is said.
  shape.Turn$1, Turn: their contracts. Condition: the array may be.
  slices.Clone of values, farray.made, TOCOL, TOROW, TRANSPOSE: their contracts. Conditions: the array may be, holds at most 4096 values.
-/
import Derived.Test.YtdmbppgogdkpdaaGreatDoorS9
set_option linter.unusedSectionVars false
namespace Go.Proofs.YtdmbppgogdkpdaaGreatDoor
open Go.RowKit
def RetV (w : World) (x : Val) (e : Ending) (w' : World) : Prop := e = .returned (.agg x.cs.toArray) ∧ Below w.heap.size w w'
def BInv (w : World) (R C X : Nat) (m : List Val) (k : Nat) (W : World) : Prop := Below w.heap.size w W ∧ Blk W w.heap.size 28 #[.int .i64 0, .int .i64 0, .slice none 0 0] ∧ ∃ A c, Blk W X 28 #[.int .i64 R, .int .i64 C, .slice A k c] ∧ W.ownsRow w.heap.size 41 6 (.slice A k c) k ((m.take k).flatMap Val.cs)
end Go.Proofs.YtdmbppgogdkpdaaGreatDoor
namespace Go.Proofs.YtdmbppgogdkpdaaGreatDoor
open Go.RowKit
end Go.Proofs.YtdmbppgogdkpdaaGreatDoor
namespace Go.Proofs.YtdmbppgogdkpdaaGreatDoor
open Go.RowKit
@[go_sem ↓] theorem Tryz.eqlnilV (w : World) (A : Option Addr) (n c : Nat) : (binOp .eql 26 (.slice A n c) (.slice none 0 0)).run Tryz.prog w = .ok (.bool A.isNone) w := Lib.run_eql_slice_nil w _ _ A n c 0 0 Tryz.underlying26
end Go.Proofs.YtdmbppgogdkpdaaGreatDoor
