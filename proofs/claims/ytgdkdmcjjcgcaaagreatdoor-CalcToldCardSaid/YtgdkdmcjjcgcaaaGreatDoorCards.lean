/-
  DERIVED. GIVEN WITH THE SEED: THE CARDS: each row of YtgdkdmcjjcgcaaaGreatDoorRows.lean that lists a variable, with what it lists TIED to the program's text (the seventh form; the later family's looks); each row that meets fmt, with fmt's text TOLD by the authors' own Lean function (tested against real Go, not proved from fmt's source: count such statements apart). THE CARD IS WHAT COUNTS. Prove the row's statement (the work); the ties are given (YtgdkdmcjjcgcaaaGreatDoorTie.lean); close each card by the builder's one call (the guide's Derived/Test/ToyasCard.lean, 'card_holds'). Laid BY PROGRAM, IN A SANDBOX (cutbox-door.mjs). By AI agents, Wed Nov 11 2026. No macro, syntax, notation, axiom, sorry.
-/
import Derived.Test.YtgdkdmcjjcgcaaaGreatDoorRows
import GoSem.ClaimSeven
namespace Go.Proofs.YtgdkdmcjjcgcaaaGreatDoor
namespace Rows

/-- THE TIED CARD OF 'counterpanelaw24.CalcTold'. -/
def calcToldCard : Claim7 := { stood := { row := calcToldRow, standIns := [], harness := (true, "f67bf4999c92053e5dd81b5fdbb60e508d2a49681977b5e0dabe2f5e6e5fb080"), looks := true }, kinds := [], alts := [], laidByText := true, laidKinds := [.data, .data, .data], laidTests := true, laidLooks := .later }
def CalcToldCardSaid : Prop := Claim7.holds Tryz.pinned (.plain (OpenSpec.ofChange calcToldSpec)) calcToldCard

/-- THE SECOND FORM's CARD OF 'counterpanelaw24.CalcTold'. -/
def calcToldUptoCard : Claim7 := { stood := { row := calcToldUptoRow, standIns := [], harness := (true, "f67bf4999c92053e5dd81b5fdbb60e508d2a49681977b5e0dabe2f5e6e5fb080"), looks := true }, kinds := [], alts := [], laidByText := true, laidKinds := [.data, .data, .data], laidTests := true, laidLooks := .later }
def CalcToldUptoCardSaid : Prop := Claim7.holds Tryz.pinned (.plain (OpenSpec.upto calcToldSpec)) calcToldUptoCard
end Rows
end Go.Proofs.YtgdkdmcjjcgcaaaGreatDoor
