/-
  DERIVED. GIVEN WITH THE SEED: THE CARDS: each row of YtkaaabledegkbaaGreatDoorRows.lean that lists a variable, with what it lists TIED to the program's text (the seventh form; the later family's looks); each row that meets fmt, with fmt's text TOLD by the authors' own Lean function (tested against real Go, not proved from fmt's source: count such statements apart). THE CARD IS WHAT COUNTS. Prove the row's statement (the work); the ties are given (YtkaaabledegkbaaGreatDoorTie.lean); close each card by the builder's one call (the guide's Derived/Test/ToyasCard.lean, 'card_holds'). Laid BY PROGRAM, IN A SANDBOX (cutbox-door.mjs). By AI agents, Wed Nov 11 2026. No macro, syntax, notation, axiom, sorry.
-/
import Derived.Test.YtkaaabledegkbaaGreatDoorRows
import GoSem.ClaimSeven
namespace Go.Proofs.YtkaaabledegkbaaGreatDoor
namespace Rows

/-- THE TIED CARD OF 'counterpanelaw26.TraceNone'. -/
def traceNoneCard : Claim7 := { stood := { row := traceNoneRow, standIns := [], harness := (true, "f20b06898feb2c3ed61e2d4fc05aac674e1da7e71e3f4ed23975bfe7a7bee226"), looks := true }, kinds := [], alts := [], laidByText := true, laidKinds := [.data, .data, .data, .data, .data, .pinned], laidTests := true, laidLooks := .later }
def TraceNoneCardSaid : Prop := Claim7.holds Tryz.pinned (.plain (OpenSpec.ofChange traceNoneSpec)) traceNoneCard

/-- THE SECOND FORM's CARD OF 'counterpanelaw26.TraceNone'. -/
def traceNoneUptoCard : Claim7 := { stood := { row := traceNoneUptoRow, standIns := [], harness := (true, "f20b06898feb2c3ed61e2d4fc05aac674e1da7e71e3f4ed23975bfe7a7bee226"), looks := true }, kinds := [], alts := [], laidByText := true, laidKinds := [.data, .data, .data, .data, .data, .pinned], laidTests := true, laidLooks := .later }
def TraceNoneUptoCardSaid : Prop := Claim7.holds Tryz.pinned (.plain (OpenSpec.upto traceNoneSpec)) traceNoneUptoCard
end Rows
end Go.Proofs.YtkaaabledegkbaaGreatDoor
