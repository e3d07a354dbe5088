/-
  DERIVED. GIVEN WITH THE SEED: THE CARDS: each row of YtfmkddccnjidmaaGreatDoorRows.lean that lists a variable, with what it lists TIED to the program's text (the seventh form; the later family's looks); each row that meets fmt, with fmt's text TOLD by the authors' own Lean function (tested against real Go, not proved from fmt's source: count such statements apart). THE CARD IS WHAT COUNTS. Prove the row's statement (the work); the ties are given (YtfmkddccnjidmaaGreatDoorTie.lean); close each card by the builder's one call (the guide's Derived/Test/ToyasCard.lean, 'card_holds'). Laid BY PROGRAM, IN A SANDBOX (cutbox-door.mjs). By AI agents, Wed Nov 11 2026. No macro, syntax, notation, axiom, sorry.
-/
import Derived.Test.YtfmkddccnjidmaaGreatDoorRows
import GoSem.ClaimSeven
namespace Go.Proofs.YtfmkddccnjidmaaGreatDoor
namespace Rows

/-- THE TIED CARD OF 'noonmarklaw24.CoreParses'. -/
def coreParsesCard : Claim7 := { stood := { row := coreParsesRow, standIns := [], harness := (true, "6879a5edf00d37e43457f5678ddf1f13e7daef84916452a735d8e2b3c1a0ba88"), looks := true }, kinds := [], alts := [], laidByText := true, laidKinds := [.data, .pinned], laidTests := true, laidLooks := .later }
def CoreParsesCardSaid : Prop := Claim7.holds Tryz.pinned (.plain (OpenSpec.ofChange coreParsesSpec)) coreParsesCard

/-- THE TIED CARD OF 'noonmarklaw24.CoreOnce'. -/
def coreOnceCard : Claim7 := { stood := { row := coreOnceRow, standIns := [], harness := (true, "6879a5edf00d37e43457f5678ddf1f13e7daef84916452a735d8e2b3c1a0ba88"), looks := true }, kinds := [], alts := [], laidByText := true, laidKinds := [.data, .pinned], laidTests := true, laidLooks := .later }
def CoreOnceCardSaid : Prop := Claim7.holds Tryz.pinned (.plain (OpenSpec.ofChange coreOnceSpec)) coreOnceCard

/-- THE TIED CARD OF 'noonmarklaw24.CoreOpen'. -/
def coreOpenCard : Claim7 := { stood := { row := coreOpenRow, standIns := [], harness := (true, "6879a5edf00d37e43457f5678ddf1f13e7daef84916452a735d8e2b3c1a0ba88"), looks := true }, kinds := [], alts := [], laidByText := true, laidKinds := [.data, .pinned], laidTests := true, laidLooks := .later }
def CoreOpenCardSaid : Prop := Claim7.holds Tryz.pinned (.plain (OpenSpec.ofChange coreOpenSpec)) coreOpenCard

/-- THE TIED CARD OF 'noonmarklaw24.CoreTwice'. -/
def coreTwiceCard : Claim7 := { stood := { row := coreTwiceRow, standIns := [], harness := (true, "6879a5edf00d37e43457f5678ddf1f13e7daef84916452a735d8e2b3c1a0ba88"), looks := true }, kinds := [], alts := [], laidByText := true, laidKinds := [.data, .pinned], laidTests := true, laidLooks := .later }
def CoreTwiceCardSaid : Prop := Claim7.holds Tryz.pinned (.plain (OpenSpec.ofChange coreTwiceSpec)) coreTwiceCard

/-- THE TIED CARD OF 'noonmarklaw24.CoreNumbers'. -/
def coreNumbersCard : Claim7 := { stood := { row := coreNumbersRow, standIns := [], harness := (true, "6879a5edf00d37e43457f5678ddf1f13e7daef84916452a735d8e2b3c1a0ba88"), looks := true }, kinds := [], alts := [], laidByText := true, laidKinds := [.data, .pinned], laidTests := true, laidLooks := .later }
def CoreNumbersCardSaid : Prop := Claim7.holds Tryz.pinned (.plain (OpenSpec.ofChange coreNumbersSpec)) coreNumbersCard

/-- THE TIED CARD OF 'noonmarklaw24.CoreBack'. -/
def coreBackCard : Claim7 := { stood := { row := coreBackRow, standIns := [], harness := (true, "6879a5edf00d37e43457f5678ddf1f13e7daef84916452a735d8e2b3c1a0ba88"), looks := true }, kinds := [], alts := [], laidByText := true, laidKinds := [.data, .pinned], laidTests := true, laidLooks := .later }
def CoreBackCardSaid : Prop := Claim7.holds Tryz.pinned (.plain (OpenSpec.ofChange coreBackSpec)) coreBackCard

/-- THE SECOND FORM's CARD OF 'noonmarklaw24.CoreParses'. -/
def coreParsesUptoCard : Claim7 := { stood := { row := coreParsesUptoRow, standIns := [], harness := (true, "6879a5edf00d37e43457f5678ddf1f13e7daef84916452a735d8e2b3c1a0ba88"), looks := true }, kinds := [], alts := [], laidByText := true, laidKinds := [.data, .pinned], laidTests := true, laidLooks := .later }
def CoreParsesUptoCardSaid : Prop := Claim7.holds Tryz.pinned (.plain (OpenSpec.upto coreParsesSpec)) coreParsesUptoCard

/-- THE SECOND FORM's CARD OF 'noonmarklaw24.CoreOnce'. -/
def coreOnceUptoCard : Claim7 := { stood := { row := coreOnceUptoRow, standIns := [], harness := (true, "6879a5edf00d37e43457f5678ddf1f13e7daef84916452a735d8e2b3c1a0ba88"), looks := true }, kinds := [], alts := [], laidByText := true, laidKinds := [.data, .pinned], laidTests := true, laidLooks := .later }
def CoreOnceUptoCardSaid : Prop := Claim7.holds Tryz.pinned (.plain (OpenSpec.upto coreOnceSpec)) coreOnceUptoCard

/-- THE SECOND FORM's CARD OF 'noonmarklaw24.CoreOpen'. -/
def coreOpenUptoCard : Claim7 := { stood := { row := coreOpenUptoRow, standIns := [], harness := (true, "6879a5edf00d37e43457f5678ddf1f13e7daef84916452a735d8e2b3c1a0ba88"), looks := true }, kinds := [], alts := [], laidByText := true, laidKinds := [.data, .pinned], laidTests := true, laidLooks := .later }
def CoreOpenUptoCardSaid : Prop := Claim7.holds Tryz.pinned (.plain (OpenSpec.upto coreOpenSpec)) coreOpenUptoCard

/-- THE SECOND FORM's CARD OF 'noonmarklaw24.CoreTwice'. -/
def coreTwiceUptoCard : Claim7 := { stood := { row := coreTwiceUptoRow, standIns := [], harness := (true, "6879a5edf00d37e43457f5678ddf1f13e7daef84916452a735d8e2b3c1a0ba88"), looks := true }, kinds := [], alts := [], laidByText := true, laidKinds := [.data, .pinned], laidTests := true, laidLooks := .later }
def CoreTwiceUptoCardSaid : Prop := Claim7.holds Tryz.pinned (.plain (OpenSpec.upto coreTwiceSpec)) coreTwiceUptoCard

/-- THE SECOND FORM's CARD OF 'noonmarklaw24.CoreNumbers'. -/
def coreNumbersUptoCard : Claim7 := { stood := { row := coreNumbersUptoRow, standIns := [], harness := (true, "6879a5edf00d37e43457f5678ddf1f13e7daef84916452a735d8e2b3c1a0ba88"), looks := true }, kinds := [], alts := [], laidByText := true, laidKinds := [.data, .pinned], laidTests := true, laidLooks := .later }
def CoreNumbersUptoCardSaid : Prop := Claim7.holds Tryz.pinned (.plain (OpenSpec.upto coreNumbersSpec)) coreNumbersUptoCard

/-- THE SECOND FORM's CARD OF 'noonmarklaw24.CoreBack'. -/
def coreBackUptoCard : Claim7 := { stood := { row := coreBackUptoRow, standIns := [], harness := (true, "6879a5edf00d37e43457f5678ddf1f13e7daef84916452a735d8e2b3c1a0ba88"), looks := true }, kinds := [], alts := [], laidByText := true, laidKinds := [.data, .pinned], laidTests := true, laidLooks := .later }
def CoreBackUptoCardSaid : Prop := Claim7.holds Tryz.pinned (.plain (OpenSpec.upto coreBackSpec)) coreBackUptoCard
end Rows
end Go.Proofs.YtfmkddccnjidmaaGreatDoor
