/-
  DERIVED. GIVEN WITH THE SEED: THE CARDS: each row of YtdmbppgogdkpdaaGreatDoorRows.lean that lists a variable, with what it lists TIED to the program's text (the seventh form; the later family's looks); each row that meets fmt, with fmt's text TOLD by the authors' own Lean function (tested against real Go, not proved from fmt's source: count such statements apart). THE CARD IS WHAT COUNTS. Prove the row's statement (the work); the ties are given (YtdmbppgogdkpdaaGreatDoorTie.lean); close each card by the builder's one call (the guide's Derived/Test/ToyasCard.lean, 'card_holds'). Laid BY PROGRAM, IN A SANDBOX (cutbox-door.mjs). By AI agents, Wed Nov 11 2026. No macro, syntax, notation, axiom, sorry.
-/
import Derived.Test.YtdmbppgogdkpdaaGreatDoorRows
import GoSem.ClaimSeven
namespace Go.Proofs.YtdmbppgogdkpdaaGreatDoor
namespace Rows

/-- THE TIED CARD OF 'counterpanelaw16.FuncsNames'. -/
def funcsNamesCard : Claim7 := { stood := { row := funcsNamesRow, standIns := [], harness := (true, "d3f1a7cf53d8d0e1a72e3dfc97abab47d82ba59c89d2d6b194cdfcd441398c7b"), looks := false }, kinds := [], alts := [], laidByText := true, laidKinds := [.data, .data, .data, .data, .data, .pinned], laidTests := true, laidLooks := .later }
def FuncsNamesCardSaid : Prop := Claim7.holds Tryz.pinned (.plain (OpenSpec.ofChange funcsNamesSpec)) funcsNamesCard

/-- THE TIED CARD OF 'counterpanelaw16.FuncsShapes'. -/
def funcsShapesCard : Claim7 := { stood := { row := funcsShapesRow, standIns := [], harness := (true, "d3f1a7cf53d8d0e1a72e3dfc97abab47d82ba59c89d2d6b194cdfcd441398c7b"), looks := false }, kinds := [], alts := [], laidByText := true, laidKinds := [.data, .data, .data, .data, .data, .pinned], laidTests := true, laidLooks := .later }
def FuncsShapesCardSaid : Prop := Claim7.holds Tryz.pinned (.plain (OpenSpec.ofChange funcsShapesSpec)) funcsShapesCard

/-- THE TIED CARD OF 'counterpanelaw16.FuncsPieces'. -/
def funcsPiecesCard : Claim7 := { stood := { row := funcsPiecesRow, standIns := [], harness := (true, "d3f1a7cf53d8d0e1a72e3dfc97abab47d82ba59c89d2d6b194cdfcd441398c7b"), looks := false }, kinds := [], alts := [], laidByText := true, laidKinds := [.data, .data, .data, .data, .data, .pinned], laidTests := true, laidLooks := .later }
def FuncsPiecesCardSaid : Prop := Claim7.holds Tryz.pinned (.plain (OpenSpec.ofChange funcsPiecesSpec)) funcsPiecesCard

/-- THE TIED CARD OF 'counterpanelaw16.FuncsAll'. -/
def funcsAllCard : Claim7 := { stood := { row := funcsAllRow, standIns := [], harness := (true, "d3f1a7cf53d8d0e1a72e3dfc97abab47d82ba59c89d2d6b194cdfcd441398c7b"), looks := false }, kinds := [], alts := [], laidByText := true, laidKinds := [.data, .data, .data, .data, .data, .pinned], laidTests := true, laidLooks := .later }
def FuncsAllCardSaid : Prop := Claim7.holds Tryz.pinned (.plain (OpenSpec.ofChange funcsAllSpec)) funcsAllCard

/-- THE SECOND FORM's CARD OF 'counterpanelaw16.FuncsNames'. -/
def funcsNamesUptoCard : Claim7 := { stood := { row := funcsNamesUptoRow, standIns := [], harness := (true, "d3f1a7cf53d8d0e1a72e3dfc97abab47d82ba59c89d2d6b194cdfcd441398c7b"), looks := false }, kinds := [], alts := [], laidByText := true, laidKinds := [.data, .data, .data, .data, .data, .pinned], laidTests := true, laidLooks := .later }
def FuncsNamesUptoCardSaid : Prop := Claim7.holds Tryz.pinned (.plain (OpenSpec.upto funcsNamesSpec)) funcsNamesUptoCard

/-- THE SECOND FORM's CARD OF 'counterpanelaw16.FuncsShapes'. -/
def funcsShapesUptoCard : Claim7 := { stood := { row := funcsShapesUptoRow, standIns := [], harness := (true, "d3f1a7cf53d8d0e1a72e3dfc97abab47d82ba59c89d2d6b194cdfcd441398c7b"), looks := false }, kinds := [], alts := [], laidByText := true, laidKinds := [.data, .data, .data, .data, .data, .pinned], laidTests := true, laidLooks := .later }
def FuncsShapesUptoCardSaid : Prop := Claim7.holds Tryz.pinned (.plain (OpenSpec.upto funcsShapesSpec)) funcsShapesUptoCard

/-- THE SECOND FORM's CARD OF 'counterpanelaw16.FuncsPieces'. -/
def funcsPiecesUptoCard : Claim7 := { stood := { row := funcsPiecesUptoRow, standIns := [], harness := (true, "d3f1a7cf53d8d0e1a72e3dfc97abab47d82ba59c89d2d6b194cdfcd441398c7b"), looks := false }, kinds := [], alts := [], laidByText := true, laidKinds := [.data, .data, .data, .data, .data, .pinned], laidTests := true, laidLooks := .later }
def FuncsPiecesUptoCardSaid : Prop := Claim7.holds Tryz.pinned (.plain (OpenSpec.upto funcsPiecesSpec)) funcsPiecesUptoCard

/-- THE SECOND FORM's CARD OF 'counterpanelaw16.FuncsAll'. -/
def funcsAllUptoCard : Claim7 := { stood := { row := funcsAllUptoRow, standIns := [], harness := (true, "d3f1a7cf53d8d0e1a72e3dfc97abab47d82ba59c89d2d6b194cdfcd441398c7b"), looks := false }, kinds := [], alts := [], laidByText := true, laidKinds := [.data, .data, .data, .data, .data, .pinned], laidTests := true, laidLooks := .later }
def FuncsAllUptoCardSaid : Prop := Claim7.holds Tryz.pinned (.plain (OpenSpec.upto funcsAllSpec)) funcsAllUptoCard
end Rows
end Go.Proofs.YtdmbppgogdkpdaaGreatDoor
