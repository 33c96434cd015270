/-
  CalcTold: what is known of the program; the tokens of its arguments. Conditions: those said in each statement.
-/
import Derived.Test.YtgdkdmcjjcgcaaaGreatDoorVE
import Derived.Test.YtgdkdmcjjcgcaaaGreatDoorProg
import Derived.KernelRfl
set_option linter.unusedSectionVars false
namespace Go.Proofs.YtgdkdmcjjcgcaaaGreatDoor
namespace AM
open Go.RowKit
variable [Toks]
theorem small_P : smallB Tryz.prog = true := by kernel_rfl
theorem mixed_P : Tryz.prog.follows .mixedOrders = true := by kernel_rfl
theorem eqs_P : eqsB Tryz.prog [23, 25, 28, 30, 32, 49, 84, 151] = true := by kernel_rfl
theorem exts_P : ExtsOk Tryz.prog [] := fun x hx => by simp at hx
theorem ids_P : IdsOk Tryz.prog [] := fun f hf => by simp at hf
def envP (P : Program) : Env := envOf P [] []
def eqP : Eqs := eqsOf [23, 25, 28, 30, 32, 49, 84, 151]
theorem envP_ok : (envP Tryz.prog).Ok Tryz.prog := envOf_ok small_P exts_P ids_P
theorem eqP_ok : eqP.Ok Tryz.prog := eqsOf_ok eqs_P
def amP (P : Program) : ACall × ARound := am P (envP P) eqP 1000 [250] 60
theorem amP_ok : CallOk Tryz.prog (amP Tryz.prog).1 ∧ RoundOk Tryz.prog (amP Tryz.prog).2 := am_ok envP_ok eqP_ok mixed_P 60
def cAt : Nat → Code → Code
  | 0, c => c
  | k + 1, c => seqR (cAt k c)
/-- What is known of the tokens: 0 the kind, 4 and 5 the number of cells asked for, 6 the text's length. -/
def tab (z : Option Bool) (g : Option Bool) (j : Option Int) : TTab where
  teqI k q n := match k, q, n with
    | 0, .i64, 0 => z
    | _, _, _ => none
  teqS _ _ := none
  teqB _ _ := none
  tbin op k u := match op, k, u with
    | .rem, 5, .int .i64 4 => match j with
      | some i => some (.int .i64 i)
      | none => none
    | .gtr, 6, .int .i64 100 => match g with
      | some b => some (.bool b)
      | none => none
    | .eql, 0, .int .i64 0 => match z with
      | some b => some (.bool b)
      | none => none
    | .neq, 0, .int .i64 0 => match z with
      | some b => some (.bool !b)
      | none => none
    | _, _, _ => none
  tcv s d k := match s, d, k with
    | 5, 3, 4 => some 5
    | _, _, _ => none
  tln k := match k with
    | 0 => some 6
    | _ => none
def envL (P : Program) (z g : Option Bool) (j : Option Int) : Env := (envP P).tok (tab z g j)
def vTok : Value := .agg #[.complex .f64 0 0, .complex .f64 0 1, .complex .f64 0 2, .complex .f64 1 0, .complex .f64 2 0, .complex .f64 0 3]
def cTok : Value := .agg #[.int .i64 1, .complex .f64 0 0, .complex .f64 0 1, .complex .f64 0 2, .complex .f64 1 0, .complex .f64 2 0, .complex .f64 0 3, .int .i64 0, .int .i64 0, .int .i64 0, .int .i64 0, .string ⟨#[]⟩, .bool false, .int .i64 0, .string ⟨#[]⟩, .int .i64 0, .int .i64 0, .int .i64 0, .int .i64 0, .bool false, .bool false, .int .i64 0, .int .i64 0, .int .i64 0, .int .i64 0, .bool false, .bool false, .int .i64 0, .slice none 0 0]
def ovT (call : ACall) : ACall := acallX 4 (acallK 5 [cTok] (.bool true) (acallK 41 [vTok] (.bool true) call))
def ovB (b : Bool) (call : ACall) : ACall := acallX 4 (acallK 5 [cTok] (.bool b) call)
def amT (P : Program) (j : Int) : ACall × ARound := amZ ovT P (envL P (some false) (some false) (some j)) eqP 1000 [250] 60
def amB (P : Program) (b : Bool) (g : Option Bool) : ACall × ARound := amZ (ovB b) P (envL P none g none) eqP 1000 [250] 60
def amS (P : Program) (j : Int) : ACall × ARound := am P (envL P none none (some j)) eqP 1000 [250] 60
end AM
end Go.Proofs.YtgdkdmcjjcgcaaaGreatDoor
