/-
  DERIVED. GIVEN WITH THE SEED: THE CARDS: each row of YtoicnghjjgkebaaGreatDoorRows.lean that lists a variable, with what it lists TIED to the program's text (the seventh form; the later family's looks); each row that meets fmt, with fmt's text TOLD by the authors' own Lean function (tested against real Go, not proved from fmt's source: count such statements apart). THE CARD IS WHAT COUNTS. Prove the row's statement (the work); the ties are given (YtoicnghjjgkebaaGreatDoorTie.lean); close each card by the builder's one call (the guide's Derived/Test/ToyasCard.lean, 'card_holds'). Laid BY PROGRAM, IN A SANDBOX (cutbox-door.mjs). By AI agents, Wed Nov 11 2026. No macro, syntax, notation, axiom, sorry.
-/
import Derived.Test.YtoicnghjjgkebaaGreatDoorRows
import GoSem.ClaimSeven
namespace Go.Proofs.YtoicnghjjgkebaaGreatDoor
namespace Rows

/-- THE TIED CARD OF 'counterpanelaw24.CalcTyped'. -/
def calcTypedCard : Claim7 := { stood := { row := calcTypedRow, standIns := [], harness := (true, "f31ed187aa87f805e55ba4ea3d1eb9c73e78d4aa1a0881c5523d664484a021f5"), looks := true }, kinds := [], alts := [], laidByText := true, laidKinds := [.data, .data, .data], laidTests := true, laidLooks := .later }
def CalcTypedCardSaid : Prop := Claim7.holds Tryz.pinned (.plain (OpenSpec.ofChange calcTypedSpec)) calcTypedCard

/-- THE SECOND FORM's CARD OF 'counterpanelaw24.CalcTyped'. -/
def calcTypedUptoCard : Claim7 := { stood := { row := calcTypedUptoRow, standIns := [], harness := (true, "f31ed187aa87f805e55ba4ea3d1eb9c73e78d4aa1a0881c5523d664484a021f5"), looks := true }, kinds := [], alts := [], laidByText := true, laidKinds := [.data, .data, .data], laidTests := true, laidLooks := .later }
def CalcTypedUptoCardSaid : Prop := Claim7.holds Tryz.pinned (.plain (OpenSpec.upto calcTypedSpec)) calcTypedUptoCard
end Rows
end Go.Proofs.YtoicnghjjgkebaaGreatDoor
