/-
  DERIVED. GIVEN WITH THE SEED: THE CARDS: each row of YtaaieblnikcndaaGreatDoorRows.lean that lists a variable, with what it lists TIED to the program's text (the seventh form; the later family's looks); each row that meets fmt, with fmt's text TOLD by the authors' own Lean function (tested against real Go, not proved from fmt's source: count such statements apart). THE CARD IS WHAT COUNTS. Prove the row's statement (the work); the ties are given (YtaaieblnikcndaaGreatDoorTie.lean); close each card by the builder's one call (the guide's Derived/Test/ToyasCard.lean, 'card_holds'). Laid BY PROGRAM, IN A SANDBOX (cutbox-door.mjs). By AI agents, Wed Nov 11 2026. No macro, syntax, notation, axiom, sorry.
-/
import Derived.Test.YtaaieblnikcndaaGreatDoorRows
import GoSem.ClaimSeven
namespace Go.Proofs.YtaaieblnikcndaaGreatDoor
namespace Rows

/-- THE TIED CARD OF 'noonmarklaw25.GateRecovers'. -/
def gateRecoversCard : Claim7 := { stood := { row := gateRecoversRow, standIns := [], harness := (true, "49e245e563a1bf08009bc4a0b3ddc2d0b9353319f700ac4693181d753d56a6a3"), looks := true }, kinds := [], alts := [], laidByText := true, laidKinds := [.data, .pinned], laidTests := true, laidLooks := .later }
def GateRecoversCardSaid : Prop := Claim7.holds Tryz.pinned (.plain (OpenSpec.ofChange gateRecoversSpec)) gateRecoversCard

/-- THE TIED CARD OF 'noonmarklaw25.GateKept'. -/
def gateKeptCard : Claim7 := { stood := { row := gateKeptRow, standIns := [], harness := (true, "49e245e563a1bf08009bc4a0b3ddc2d0b9353319f700ac4693181d753d56a6a3"), looks := true }, kinds := [], alts := [], laidByText := true, laidKinds := [.data, .pinned], laidTests := true, laidLooks := .later }
def GateKeptCardSaid : Prop := Claim7.holds Tryz.pinned (.plain (OpenSpec.ofChange gateKeptSpec)) gateKeptCard

/-- THE TIED CARD OF 'noonmarklaw25.GateQuiet'. -/
def gateQuietCard : Claim7 := { stood := { row := gateQuietRow, standIns := [], harness := (true, "49e245e563a1bf08009bc4a0b3ddc2d0b9353319f700ac4693181d753d56a6a3"), looks := true }, kinds := [], alts := [], laidByText := true, laidKinds := [.data, .pinned], laidTests := true, laidLooks := .later }
def GateQuietCardSaid : Prop := Claim7.holds Tryz.pinned (.plain (OpenSpec.ofChange gateQuietSpec)) gateQuietCard

/-- THE TIED CARD OF 'noonmarklaw25.GateAnew'. -/
def gateAnewCard : Claim7 := { stood := { row := gateAnewRow, standIns := [], harness := (true, "49e245e563a1bf08009bc4a0b3ddc2d0b9353319f700ac4693181d753d56a6a3"), looks := true }, kinds := [], alts := [], laidByText := true, laidKinds := [.data, .pinned], laidTests := true, laidLooks := .later }
def GateAnewCardSaid : Prop := Claim7.holds Tryz.pinned (.plain (OpenSpec.ofChange gateAnewSpec)) gateAnewCard

/-- THE SECOND FORM's CARD OF 'noonmarklaw25.GateRecovers'. -/
def gateRecoversUptoCard : Claim7 := { stood := { row := gateRecoversUptoRow, standIns := [], harness := (true, "49e245e563a1bf08009bc4a0b3ddc2d0b9353319f700ac4693181d753d56a6a3"), looks := true }, kinds := [], alts := [], laidByText := true, laidKinds := [.data, .pinned], laidTests := true, laidLooks := .later }
def GateRecoversUptoCardSaid : Prop := Claim7.holds Tryz.pinned (.plain (OpenSpec.upto gateRecoversSpec)) gateRecoversUptoCard

/-- THE SECOND FORM's CARD OF 'noonmarklaw25.GateKept'. -/
def gateKeptUptoCard : Claim7 := { stood := { row := gateKeptUptoRow, standIns := [], harness := (true, "49e245e563a1bf08009bc4a0b3ddc2d0b9353319f700ac4693181d753d56a6a3"), looks := true }, kinds := [], alts := [], laidByText := true, laidKinds := [.data, .pinned], laidTests := true, laidLooks := .later }
def GateKeptUptoCardSaid : Prop := Claim7.holds Tryz.pinned (.plain (OpenSpec.upto gateKeptSpec)) gateKeptUptoCard

/-- THE SECOND FORM's CARD OF 'noonmarklaw25.GateQuiet'. -/
def gateQuietUptoCard : Claim7 := { stood := { row := gateQuietUptoRow, standIns := [], harness := (true, "49e245e563a1bf08009bc4a0b3ddc2d0b9353319f700ac4693181d753d56a6a3"), looks := true }, kinds := [], alts := [], laidByText := true, laidKinds := [.data, .pinned], laidTests := true, laidLooks := .later }
def GateQuietUptoCardSaid : Prop := Claim7.holds Tryz.pinned (.plain (OpenSpec.upto gateQuietSpec)) gateQuietUptoCard

/-- THE SECOND FORM's CARD OF 'noonmarklaw25.GateAnew'. -/
def gateAnewUptoCard : Claim7 := { stood := { row := gateAnewUptoRow, standIns := [], harness := (true, "49e245e563a1bf08009bc4a0b3ddc2d0b9353319f700ac4693181d753d56a6a3"), looks := true }, kinds := [], alts := [], laidByText := true, laidKinds := [.data, .pinned], laidTests := true, laidLooks := .later }
def GateAnewUptoCardSaid : Prop := Claim7.holds Tryz.pinned (.plain (OpenSpec.upto gateAnewSpec)) gateAnewUptoCard
end Rows
end Go.Proofs.YtaaieblnikcndaaGreatDoor
