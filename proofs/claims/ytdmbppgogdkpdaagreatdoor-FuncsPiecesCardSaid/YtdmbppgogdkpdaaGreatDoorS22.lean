/-
  The law's closure: a name and an array are handed to Lib.Call. No condition beyond those said.
  Plain: an array turned twice is itself; a turned array holds the same values as often. Condition: rows times columns is the number of values.
  FuncsShapes: its awake tells true (reckoned by the abstract machine). No condition.
  Plain: a row turned is the column; what the asked functions give back may be asked again. No condition beyond those said.
  The law FuncsShapes: the walk (begun).
  A region that draws its order, by an invariant: what holds ahead of each operation that is ready, and behind it. No condition.
  A region that draws its order and holds allocations beside calls: three results and three boxes, whichever way they come. No condition.
-/
import Derived.Test.YtdmbppgogdkpdaaGreatDoorS15
import Derived.Test.YtdmbppgogdkpdaaGreatDoorM2
set_option linter.unusedSectionVars false
namespace Go.Proofs.YtdmbppgogdkpdaaGreatDoor
open Go.RowKit
structure ArrR (w : World) (R C : Nat) (A : Option Addr) (n : Nat) (l : List Val) : Prop where
  many : ManyR Val.cs 6 w A l
  len : l.length = n
  le : n ≤ 4096
  fits : ∀ v ∈ l, FitsV v
  right : RightA R C l
theorem ArrR.next {w w' : World} {R C : Nat} {A : Option Addr} {n : Nat} {l : List Val} (h : ArrR w R C A n l) (hb : Below w.heap.size w w') : ArrR w' R C A n l := ⟨h.many.next hb, h.len, h.le, h.fits, h.right⟩
theorem ArrR.le2 {w : World} {R C : Nat} {A : Option Addr} {n : Nat} {l : List Val} (h : ArrR w R C A n l) : R ≤ 4096 ∧ C ≤ 4096 ∧ l ≠ [] := by
  have h1 := h.right.r1
  have h2 := h.right.c1
  have h3 := h.right.len
  have h4 := h.le
  have h5 := h.len
  have e : R * C = l.length := by exact_mod_cast h3
  have hR : R ≤ R * C := Nat.le_mul_of_pos_right R (by omega)
  have hC : C ≤ R * C := Nat.le_mul_of_pos_left C (by omega)
  refine ⟨by omega, by omega, fun e0 => ?_⟩
  rw [e0] at e
  simp at e
  omega
end Go.Proofs.YtdmbppgogdkpdaaGreatDoor
namespace Go.Proofs.YtdmbppgogdkpdaaGreatDoor
end Go.Proofs.YtdmbppgogdkpdaaGreatDoor
namespace Go.Proofs.YtdmbppgogdkpdaaGreatDoor
open Go.RowKit
namespace AM
theorem tells_P : (letI : Toks := noToks; tells ((am Tryz.prog (envOf Tryz.prog [] []) (eqsOf [39, 41]) 1000 [] 60).1 7 [] (tabsH []))) = true := by kernel_rfl
theorem awake7 (w : World) : Calls Tryz.prog 7 #[] w fun e w' => e = .returned (.bool true) ∧ Below w.heap.size w w' := by
  letI : Toks := noToks
  exact am_tells small_P exts_P ids_P eqs_P mixed_P (ts := []) (by rfl) tells_P w (fun x hx => by simp at hx)
end AM
end Go.Proofs.YtdmbppgogdkpdaaGreatDoor
namespace Go.Proofs.YtdmbppgogdkpdaaGreatDoor
open Go.RowKit
end Go.Proofs.YtdmbppgogdkpdaaGreatDoor
namespace Go.Proofs.YtdmbppgogdkpdaaGreatDoor
open Go.RowKit
def LawP (w : World) (e : Ending) (w' : World) : Prop := e = .returned (.bool true) ∧ Below w.heap.size w w'
end Go.Proofs.YtdmbppgogdkpdaaGreatDoor
namespace Go.Proofs.YtdmbppgogdkpdaaGreatDoor
open Go.RowKit
end Go.Proofs.YtdmbppgogdkpdaaGreatDoor
namespace Go.Proofs.YtdmbppgogdkpdaaGreatDoor
open Go.RowKit
section
variable {own : Nat → Nat} {w0 w w' : World} {R C n : Nat} {l : List Val} {b2 b5 b8 b9 b10 b11 : Bool} {u24 u27 u30 u5 u6 u7 u : Value}
end
end Go.Proofs.YtdmbppgogdkpdaaGreatDoor
