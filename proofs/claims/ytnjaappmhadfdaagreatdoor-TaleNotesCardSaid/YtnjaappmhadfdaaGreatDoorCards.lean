/-
  DERIVED. GIVEN WITH THE SEED: THE CARDS: each row of YtnjaappmhadfdaaGreatDoorRows.lean that lists a variable, with what it lists TIED to the program's text (the seventh form; the later family's looks); each row that meets fmt, with fmt's text TOLD by the authors' own Lean function (tested against real Go, not proved from fmt's source: count such statements apart). THE CARD IS WHAT COUNTS. Prove the row's statement (the work); the ties are given (YtnjaappmhadfdaaGreatDoorTie.lean); close each card by the builder's one call (the guide's Derived/Test/ToyasCard.lean, 'card_holds'). Laid BY PROGRAM, IN A SANDBOX (cutbox-door.mjs). By AI agents, Wed Nov 11 2026. No macro, syntax, notation, axiom, sorry.
-/
import Derived.Test.YtnjaappmhadfdaaGreatDoorRows
import GoSem.ClaimSeven
namespace Go.Proofs.YtnjaappmhadfdaaGreatDoor
namespace Rows

/-- THE TIED CARD OF 'noonmarklaw29.TaleBack'. -/
def taleBackCard : Claim7 := { stood := { row := taleBackRow, standIns := [], harness := (true, "7ff70723c1fe0d79776ab7fe543d57177d484b97e4186c28c45299591aaa7095"), looks := true }, kinds := [], alts := [], laidByText := true, laidKinds := [.data, .data, .data, .sentinel, .sentinel, .pinned, .data, .data], laidTests := true, laidLooks := .later }
def TaleBackCardSaid : Prop := Claim7.holds Tryz.pinned (.plain (OpenSpec.ofChange taleBackSpec)) taleBackCard

/-- THE TIED CARD OF 'noonmarklaw29.TaleNotes'. -/
def taleNotesCard : Claim7 := { stood := { row := taleNotesRow, standIns := [], harness := (true, "7ff70723c1fe0d79776ab7fe543d57177d484b97e4186c28c45299591aaa7095"), looks := true }, kinds := [], alts := [], laidByText := true, laidKinds := [.data, .data, .data, .sentinel, .sentinel, .pinned, .data, .data], laidTests := true, laidLooks := .later }
def TaleNotesCardSaid : Prop := Claim7.holds Tryz.pinned (.plain (OpenSpec.ofChange taleNotesSpec)) taleNotesCard

/-- THE SECOND FORM's CARD OF 'noonmarklaw29.TaleBack'. -/
def taleBackUptoCard : Claim7 := { stood := { row := taleBackUptoRow, standIns := [], harness := (true, "7ff70723c1fe0d79776ab7fe543d57177d484b97e4186c28c45299591aaa7095"), looks := true }, kinds := [], alts := [], laidByText := true, laidKinds := [.data, .data, .data, .sentinel, .sentinel, .pinned, .data, .data], laidTests := true, laidLooks := .later }
def TaleBackUptoCardSaid : Prop := Claim7.holds Tryz.pinned (.plain (OpenSpec.upto taleBackSpec)) taleBackUptoCard

/-- THE SECOND FORM's CARD OF 'noonmarklaw29.TaleNotes'. -/
def taleNotesUptoCard : Claim7 := { stood := { row := taleNotesUptoRow, standIns := [], harness := (true, "7ff70723c1fe0d79776ab7fe543d57177d484b97e4186c28c45299591aaa7095"), looks := true }, kinds := [], alts := [], laidByText := true, laidKinds := [.data, .data, .data, .sentinel, .sentinel, .pinned, .data, .data], laidTests := true, laidLooks := .later }
def TaleNotesUptoCardSaid : Prop := Claim7.holds Tryz.pinned (.plain (OpenSpec.upto taleNotesSpec)) taleNotesUptoCard
end Rows
end Go.Proofs.YtnjaappmhadfdaaGreatDoor
