/-
  DERIVED. GIVEN WITH THE SEED: THE CARDS: each row of YtlmphkpeajnhjaaGreatDoorRows.lean that lists a variable, with what it lists TIED to the program's text (the seventh form; the later family's looks); each row that meets fmt, with fmt's text TOLD by the authors' own Lean function (tested against real Go, not proved from fmt's source: count such statements apart). THE CARD IS WHAT COUNTS. Prove the row's statement (the work); the ties are given (YtlmphkpeajnhjaaGreatDoorTie.lean); close each card by the builder's one call (the guide's Derived/Test/ToyasCard.lean, 'card_holds'). Laid BY PROGRAM, IN A SANDBOX (cutbox-door.mjs). By AI agents, Wed Nov 11 2026. No macro, syntax, notation, axiom, sorry.
-/
import Derived.Test.YtlmphkpeajnhjaaGreatDoorRows
import GoSem.ClaimSeven
namespace Go.Proofs.YtlmphkpeajnhjaaGreatDoor
namespace Rows

/-- THE TIED CARD OF 'noonmarklaw27.FleetKeeps'. -/
def fleetKeepsCard : Claim7 := { stood := { row := fleetKeepsRow, standIns := [], harness := (true, "1bc2560f06dd48e9834fc5944821cc1dc7652387b58d116caf99d772eb66416e"), looks := true }, kinds := [], alts := [], laidByText := true, laidKinds := [.data, .pinned], laidTests := true, laidLooks := .later }
def FleetKeepsCardSaid : Prop := Claim7.holds Tryz.pinned (.plain (OpenSpec.ofChange fleetKeepsSpec)) fleetKeepsCard

/-- THE TIED CARD OF 'noonmarklaw27.FleetRefuses'. -/
def fleetRefusesCard : Claim7 := { stood := { row := fleetRefusesRow, standIns := [], harness := (true, "1bc2560f06dd48e9834fc5944821cc1dc7652387b58d116caf99d772eb66416e"), looks := true }, kinds := [], alts := [], laidByText := true, laidKinds := [.data, .pinned], laidTests := true, laidLooks := .later }
def FleetRefusesCardSaid : Prop := Claim7.holds Tryz.pinned (.plain (OpenSpec.ofChange fleetRefusesSpec)) fleetRefusesCard

/-- THE TIED CARD OF 'noonmarklaw27.FleetFrames'. -/
def fleetFramesCard : Claim7 := { stood := { row := fleetFramesRow, standIns := [], harness := (true, "1bc2560f06dd48e9834fc5944821cc1dc7652387b58d116caf99d772eb66416e"), looks := true }, kinds := [], alts := [], laidByText := true, laidKinds := [.data, .pinned], laidTests := true, laidLooks := .later }
def FleetFramesCardSaid : Prop := Claim7.holds Tryz.pinned (.plain (OpenSpec.ofChange fleetFramesSpec)) fleetFramesCard

/-- THE SECOND FORM's CARD OF 'noonmarklaw27.FleetKeeps'. -/
def fleetKeepsUptoCard : Claim7 := { stood := { row := fleetKeepsUptoRow, standIns := [], harness := (true, "1bc2560f06dd48e9834fc5944821cc1dc7652387b58d116caf99d772eb66416e"), looks := true }, kinds := [], alts := [], laidByText := true, laidKinds := [.data, .pinned], laidTests := true, laidLooks := .later }
def FleetKeepsUptoCardSaid : Prop := Claim7.holds Tryz.pinned (.plain (OpenSpec.upto fleetKeepsSpec)) fleetKeepsUptoCard

/-- THE SECOND FORM's CARD OF 'noonmarklaw27.FleetRefuses'. -/
def fleetRefusesUptoCard : Claim7 := { stood := { row := fleetRefusesUptoRow, standIns := [], harness := (true, "1bc2560f06dd48e9834fc5944821cc1dc7652387b58d116caf99d772eb66416e"), looks := true }, kinds := [], alts := [], laidByText := true, laidKinds := [.data, .pinned], laidTests := true, laidLooks := .later }
def FleetRefusesUptoCardSaid : Prop := Claim7.holds Tryz.pinned (.plain (OpenSpec.upto fleetRefusesSpec)) fleetRefusesUptoCard

/-- THE SECOND FORM's CARD OF 'noonmarklaw27.FleetFrames'. -/
def fleetFramesUptoCard : Claim7 := { stood := { row := fleetFramesUptoRow, standIns := [], harness := (true, "1bc2560f06dd48e9834fc5944821cc1dc7652387b58d116caf99d772eb66416e"), looks := true }, kinds := [], alts := [], laidByText := true, laidKinds := [.data, .pinned], laidTests := true, laidLooks := .later }
def FleetFramesUptoCardSaid : Prop := Claim7.holds Tryz.pinned (.plain (OpenSpec.upto fleetFramesSpec)) fleetFramesUptoCard
end Rows
end Go.Proofs.YtlmphkpeajnhjaaGreatDoor
