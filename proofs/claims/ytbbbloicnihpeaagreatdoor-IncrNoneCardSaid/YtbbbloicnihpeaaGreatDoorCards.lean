/-
  DERIVED. GIVEN WITH THE SEED: THE CARDS: each row of YtbbbloicnihpeaaGreatDoorRows.lean that lists a variable, with what it lists TIED to the program's text (the seventh form; the later family's looks); each row that meets fmt, with fmt's text TOLD by the authors' own Lean function (tested against real Go, not proved from fmt's source: count such statements apart). THE CARD IS WHAT COUNTS. Prove the row's statement (the work); the ties are given (YtbbbloicnihpeaaGreatDoorTie.lean); close each card by the builder's one call (the guide's Derived/Test/ToyasCard.lean, 'card_holds'). Laid BY PROGRAM, IN A SANDBOX (cutbox-door.mjs). By AI agents, Wed Nov 11 2026. No macro, syntax, notation, axiom, sorry.
-/
import Derived.Test.YtbbbloicnihpeaaGreatDoorRows
import GoSem.ClaimSeven
namespace Go.Proofs.YtbbbloicnihpeaaGreatDoor
namespace Rows

/-- THE TIED CARD OF 'counterpanelaw25.IncrNone'. -/
def incrNoneCard : Claim7 := { stood := { row := incrNoneRow, standIns := [], harness := (true, "6601c9659749b8902280cbdd382f66fbb115d2567f477c0fdba206570f20e4bd"), looks := true }, kinds := [], alts := [], laidByText := true, laidKinds := [.data, .data, .data, .data], laidTests := true, laidLooks := .later }
def IncrNoneCardSaid : Prop := Claim7.holds Tryz.pinned (.plain (OpenSpec.ofChange incrNoneSpec)) incrNoneCard

/-- THE SECOND FORM's CARD OF 'counterpanelaw25.IncrNone'. -/
def incrNoneUptoCard : Claim7 := { stood := { row := incrNoneUptoRow, standIns := [], harness := (true, "6601c9659749b8902280cbdd382f66fbb115d2567f477c0fdba206570f20e4bd"), looks := true }, kinds := [], alts := [], laidByText := true, laidKinds := [.data, .data, .data, .data], laidTests := true, laidLooks := .later }
def IncrNoneUptoCardSaid : Prop := Claim7.holds Tryz.pinned (.plain (OpenSpec.upto incrNoneSpec)) incrNoneUptoCard
end Rows
end Go.Proofs.YtbbbloicnihpeaaGreatDoor
