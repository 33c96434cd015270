/-
  DERIVED. GIVEN WITH THE SEED: THE CARDS: each row of YtccnkkffeokgcaaGreatDoorRows.lean that lists a variable, with what it lists TIED to the program's text (the seventh form; the later family's looks); each row that meets fmt, with fmt's text TOLD by the authors' own Lean function (tested against real Go, not proved from fmt's source: count such statements apart). THE CARD IS WHAT COUNTS. Prove the row's statement (the work); the ties are given (YtccnkkffeokgcaaGreatDoorTie.lean); close each card by the builder's one call (the guide's Derived/Test/ToyasCard.lean, 'card_holds'). Laid BY PROGRAM, IN A SANDBOX (cutbox-door.mjs). By AI agents, Wed Nov 11 2026. No macro, syntax, notation, axiom, sorry.
-/
import Derived.Test.YtccnkkffeokgcaaGreatDoorRows
import GoSem.ClaimSeven
namespace Go.Proofs.YtccnkkffeokgcaaGreatDoor
namespace Rows

/-- THE TIED CARD OF 'counterpanelaw22.EvalFinal'. -/
def evalFinalCard : Claim7 := { stood := { row := evalFinalRow, standIns := [], harness := (true, "05ee069b8c27d9ece70ee717abb9f8e9af06d97c0030d9be6afc3ab24fe309c7"), looks := false }, kinds := [], alts := [], laidByText := true, laidKinds := [.data, .data, .data], laidTests := true, laidLooks := .later }
def EvalFinalCardSaid : Prop := Claim7.holds Tryz.pinned (.plain (OpenSpec.ofChange evalFinalSpec)) evalFinalCard

/-- THE SECOND FORM's CARD OF 'counterpanelaw22.EvalFinal'. -/
def evalFinalUptoCard : Claim7 := { stood := { row := evalFinalUptoRow, standIns := [], harness := (true, "05ee069b8c27d9ece70ee717abb9f8e9af06d97c0030d9be6afc3ab24fe309c7"), looks := false }, kinds := [], alts := [], laidByText := true, laidKinds := [.data, .data, .data], laidTests := true, laidLooks := .later }
def EvalFinalUptoCardSaid : Prop := Claim7.holds Tryz.pinned (.plain (OpenSpec.upto evalFinalSpec)) evalFinalUptoCard
end Rows
end Go.Proofs.YtccnkkffeokgcaaGreatDoor
