/-
  NARROWER THAN 'FOR EVERY INPUT', by the rows' own cells (each row's printed sentence says how): CoreParses: laid · CoreOnce: laid · CoreOpen: laid · CoreTwice: laid · CoreNumbers: laid · CoreBack: laid.
  DERIVED. THE GIVEN ROWS OF THIS SEAT. 6 by the template 'for every input the law returns true; each argument reads behind the call as it read before'; 0 by the template 'total and deterministic' (their statements: YtfmkddccnjidmaaGreatDoorTotals.lean).
  GIVEN WITH THE SEED: the statements are not yours to turn. If you find one false, say at which input.
  Laid BY PROGRAM, IN A SANDBOX (cutbox-rows.mjs): the forced cells as the released guide's own fill.sh prints them over the translation 63bb1c23e00c6457… (all of the seat's roots in one cut). By AI agents, Wed Nov 11 2026. No macro, syntax, notation, axiom, sorry.
-/
import Derived.Test.YtfmkddccnjidmaaGreatDoorChecked
import GoSem.PinnedTables
import GoSem.Claim
import GoSem.ClaimJoined
import GoSem.ClaimMapViews
import Derived.JoinedTies
import Derived.KernelRfl
namespace Go.Proofs.YtfmkddccnjidmaaGreatDoor
/- THE CELL 'sum', in the pinned program and in every row, IS THE sha256 OF THE DUMP (.gsa) THAT YtfmkddccnjidmaaGreatDoorProg.lean LOADS. Nothing in Lean hashes anything: it is a label: what it is worth is what the hold of that sum in a sandbox is worth. -/
noncomputable def Tryz.pinned : Pinned := { name := "ytfmkddccnjidmaagreatdoor", sum := "63bb1c23e00c6457e7e07a68586828d2215a892b7ab0ddab36eac4952cacc4f5", checked := Tryz.checked }
namespace Rows
def none {H : Type} : Left H := { results := [], args := [] }

/- WHAT THE LISTED PACKAGE-LEVEL VARIABLES READ AS WHEN THE CALL BEGINS. Each datum BY PROGRAM (the guide's laid-datum.mjs) off the statement by which the dump's own 'gosem.cut.vars' lays the variable. In a bare row this is a premise. The card (YtfmkddccnjidmaaGreatDoorCards.lean) ties it to the program's text. -/
def laid_unicode_utf8_acceptRanges {H : Type} : DataW H := .agg [.agg [.lit (.int .u8 128), .lit (.int .u8 191)], .agg [.lit (.int .u8 160), .lit (.int .u8 191)], .agg [.lit (.int .u8 128), .lit (.int .u8 159)], .agg [.lit (.int .u8 144), .lit (.int .u8 191)], .agg [.lit (.int .u8 128), .lit (.int .u8 143)], .agg [.lit (.int .u8 0), .lit (.int .u8 0)], .agg [.lit (.int .u8 0), .lit (.int .u8 0)], .agg [.lit (.int .u8 0), .lit (.int .u8 0)], .agg [.lit (.int .u8 0), .lit (.int .u8 0)], .agg [.lit (.int .u8 0), .lit (.int .u8 0)], .agg [.lit (.int .u8 0), .lit (.int .u8 0)], .agg [.lit (.int .u8 0), .lit (.int .u8 0)], .agg [.lit (.int .u8 0), .lit (.int .u8 0)], .agg [.lit (.int .u8 0), .lit (.int .u8 0)], .agg [.lit (.int .u8 0), .lit (.int .u8 0)], .agg [.lit (.int .u8 0), .lit (.int .u8 0)]]
/-- One of Go's own tables, pinned by name: the form's constant. -/
def laid_unicode_utf8_first : DataW Unit := Go.Pinned.utf8First

/-- 'noonmarklaw24.CoreParses': WHATEVER THE INPUT: true; the input reads as it did. -/
def coreParsesSpec : ChangeSpec := { name := "coreParses", fn := fun _ => fun
  | [d1, d2] => { results := [.lit (.bool true)], args := [d1, d2] }
  | _ => none }
def coreParsesRow : OpenClaim := { program := "ytfmkddccnjidmaagreatdoor", sum := "63bb1c23e00c6457e7e07a68586828d2215a892b7ab0ddab36eac4952cacc4f5", func := "noonmark/noonmarklaw24.CoreParses", spec := "coreParses", inPlace := ["internal/bytealg.IndexByteString", "internal/abi.NoEscape", "internal/bytealg.MakeNoZero", "math/bits.Add64", "maps.clone", "internal/bytealg.IndexString"], unfollowed := true, recurses := true, named := ["math/bits.divideError", "math/bits.overflowError", "internal/bytealg.MaxLen", "unicode/utf8.first", "unicode/utf8.acceptRanges"], plainKeys := false, apart := false, laid := [("unicode/utf8.acceptRanges", laid_unicode_utf8_acceptRanges), ("unicode/utf8.first", laid_unicode_utf8_first)] }
def CoreParsesSaid : Prop := coreParsesRow.holds Tryz.pinned (OpenSpec.ofChange coreParsesSpec)

/-- ITS FALSE NEIGHBOUR: 'it returns false'. Refute it at one input. -/
def coreParsesWrong : ChangeSpec := { name := "coreParses", fn := fun _ => fun
  | [d1, d2] => { results := [.lit (.bool false)], args := [d1, d2] }
  | _ => none }
def CoreParsesWrongFalsely : Prop := coreParsesRow.holds Tryz.pinned (OpenSpec.ofChange coreParsesWrong)

/-- 'noonmarklaw24.CoreOnce': WHATEVER THE INPUT: true; the input reads as it did. -/
def coreOnceSpec : ChangeSpec := { name := "coreOnce", fn := fun _ => fun
  | [d1, d2] => { results := [.lit (.bool true)], args := [d1, d2] }
  | _ => none }
def coreOnceRow : OpenClaim := { program := "ytfmkddccnjidmaagreatdoor", sum := "63bb1c23e00c6457e7e07a68586828d2215a892b7ab0ddab36eac4952cacc4f5", func := "noonmark/noonmarklaw24.CoreOnce", spec := "coreOnce", inPlace := ["internal/bytealg.IndexByteString", "internal/abi.NoEscape", "internal/bytealg.MakeNoZero", "math/bits.Add64", "maps.clone", "internal/bytealg.IndexString"], unfollowed := true, recurses := true, named := ["math/bits.divideError", "math/bits.overflowError", "internal/bytealg.MaxLen", "unicode/utf8.first", "unicode/utf8.acceptRanges"], plainKeys := false, apart := false, laid := [("unicode/utf8.acceptRanges", laid_unicode_utf8_acceptRanges), ("unicode/utf8.first", laid_unicode_utf8_first)] }
def CoreOnceSaid : Prop := coreOnceRow.holds Tryz.pinned (OpenSpec.ofChange coreOnceSpec)

/-- ITS FALSE NEIGHBOUR: 'it returns false'. Refute it at one input. -/
def coreOnceWrong : ChangeSpec := { name := "coreOnce", fn := fun _ => fun
  | [d1, d2] => { results := [.lit (.bool false)], args := [d1, d2] }
  | _ => none }
def CoreOnceWrongFalsely : Prop := coreOnceRow.holds Tryz.pinned (OpenSpec.ofChange coreOnceWrong)

/-- 'noonmarklaw24.CoreOpen': WHATEVER THE INPUT: true; the input reads as it did. -/
def coreOpenSpec : ChangeSpec := { name := "coreOpen", fn := fun _ => fun
  | [d1, d2] => { results := [.lit (.bool true)], args := [d1, d2] }
  | _ => none }
def coreOpenRow : OpenClaim := { program := "ytfmkddccnjidmaagreatdoor", sum := "63bb1c23e00c6457e7e07a68586828d2215a892b7ab0ddab36eac4952cacc4f5", func := "noonmark/noonmarklaw24.CoreOpen", spec := "coreOpen", inPlace := ["internal/bytealg.IndexByteString", "internal/abi.NoEscape", "internal/bytealg.MakeNoZero", "math/bits.Add64", "maps.clone", "internal/bytealg.IndexString"], unfollowed := true, recurses := true, named := ["math/bits.divideError", "math/bits.overflowError", "internal/bytealg.MaxLen", "unicode/utf8.first", "unicode/utf8.acceptRanges"], plainKeys := false, apart := false, laid := [("unicode/utf8.acceptRanges", laid_unicode_utf8_acceptRanges), ("unicode/utf8.first", laid_unicode_utf8_first)] }
def CoreOpenSaid : Prop := coreOpenRow.holds Tryz.pinned (OpenSpec.ofChange coreOpenSpec)

/-- ITS FALSE NEIGHBOUR: 'it returns false'. Refute it at one input. -/
def coreOpenWrong : ChangeSpec := { name := "coreOpen", fn := fun _ => fun
  | [d1, d2] => { results := [.lit (.bool false)], args := [d1, d2] }
  | _ => none }
def CoreOpenWrongFalsely : Prop := coreOpenRow.holds Tryz.pinned (OpenSpec.ofChange coreOpenWrong)

/-- 'noonmarklaw24.CoreTwice': WHATEVER THE INPUT: true; the input reads as it did. -/
def coreTwiceSpec : ChangeSpec := { name := "coreTwice", fn := fun _ => fun
  | [d1, d2, d3] => { results := [.lit (.bool true)], args := [d1, d2, d3] }
  | _ => none }
def coreTwiceRow : OpenClaim := { program := "ytfmkddccnjidmaagreatdoor", sum := "63bb1c23e00c6457e7e07a68586828d2215a892b7ab0ddab36eac4952cacc4f5", func := "noonmark/noonmarklaw24.CoreTwice", spec := "coreTwice", inPlace := ["internal/bytealg.IndexByteString", "internal/abi.NoEscape", "internal/bytealg.MakeNoZero", "math/bits.Add64", "maps.clone", "internal/bytealg.IndexString"], unfollowed := true, recurses := true, named := ["math/bits.divideError", "math/bits.overflowError", "internal/bytealg.MaxLen", "unicode/utf8.first", "unicode/utf8.acceptRanges"], plainKeys := false, apart := false, laid := [("unicode/utf8.acceptRanges", laid_unicode_utf8_acceptRanges), ("unicode/utf8.first", laid_unicode_utf8_first)] }
def CoreTwiceSaid : Prop := coreTwiceRow.holds Tryz.pinned (OpenSpec.ofChange coreTwiceSpec)

/-- ITS FALSE NEIGHBOUR: 'it returns false'. Refute it at one input. -/
def coreTwiceWrong : ChangeSpec := { name := "coreTwice", fn := fun _ => fun
  | [d1, d2, d3] => { results := [.lit (.bool false)], args := [d1, d2, d3] }
  | _ => none }
def CoreTwiceWrongFalsely : Prop := coreTwiceRow.holds Tryz.pinned (OpenSpec.ofChange coreTwiceWrong)

/-- 'noonmarklaw24.CoreNumbers': WHATEVER THE INPUT: true; the input reads as it did. -/
def coreNumbersSpec : ChangeSpec := { name := "coreNumbers", fn := fun _ => fun
  | [d1, d2] => { results := [.lit (.bool true)], args := [d1, d2] }
  | _ => none }
def coreNumbersRow : OpenClaim := { program := "ytfmkddccnjidmaagreatdoor", sum := "63bb1c23e00c6457e7e07a68586828d2215a892b7ab0ddab36eac4952cacc4f5", func := "noonmark/noonmarklaw24.CoreNumbers", spec := "coreNumbers", inPlace := ["internal/bytealg.IndexByteString", "internal/abi.NoEscape", "internal/bytealg.MakeNoZero", "math/bits.Add64", "maps.clone", "internal/bytealg.IndexString"], unfollowed := true, recurses := true, named := ["math/bits.divideError", "math/bits.overflowError", "internal/bytealg.MaxLen", "unicode/utf8.first", "unicode/utf8.acceptRanges"], plainKeys := false, apart := false, laid := [("unicode/utf8.acceptRanges", laid_unicode_utf8_acceptRanges), ("unicode/utf8.first", laid_unicode_utf8_first)] }
def CoreNumbersSaid : Prop := coreNumbersRow.holds Tryz.pinned (OpenSpec.ofChange coreNumbersSpec)

/-- ITS FALSE NEIGHBOUR: 'it returns false'. Refute it at one input. -/
def coreNumbersWrong : ChangeSpec := { name := "coreNumbers", fn := fun _ => fun
  | [d1, d2] => { results := [.lit (.bool false)], args := [d1, d2] }
  | _ => none }
def CoreNumbersWrongFalsely : Prop := coreNumbersRow.holds Tryz.pinned (OpenSpec.ofChange coreNumbersWrong)

/-- 'noonmarklaw24.CoreBack': WHATEVER THE INPUT: true; the input reads as it did. -/
def coreBackSpec : ChangeSpec := { name := "coreBack", fn := fun _ => fun
  | [d1, d2, d3] => { results := [.lit (.bool true)], args := [d1, d2, d3] }
  | _ => none }
def coreBackRow : OpenClaim := { program := "ytfmkddccnjidmaagreatdoor", sum := "63bb1c23e00c6457e7e07a68586828d2215a892b7ab0ddab36eac4952cacc4f5", func := "noonmark/noonmarklaw24.CoreBack", spec := "coreBack", inPlace := ["internal/bytealg.IndexByteString", "internal/abi.NoEscape", "internal/bytealg.MakeNoZero", "math/bits.Add64", "maps.clone", "internal/bytealg.IndexString"], unfollowed := true, recurses := true, named := ["math/bits.divideError", "math/bits.overflowError", "internal/bytealg.MaxLen", "unicode/utf8.first", "unicode/utf8.acceptRanges"], plainKeys := false, apart := false, laid := [("unicode/utf8.acceptRanges", laid_unicode_utf8_acceptRanges), ("unicode/utf8.first", laid_unicode_utf8_first)] }
def CoreBackSaid : Prop := coreBackRow.holds Tryz.pinned (OpenSpec.ofChange coreBackSpec)

/-- ITS FALSE NEIGHBOUR: 'it returns false'. Refute it at one input. -/
def coreBackWrong : ChangeSpec := { name := "coreBack", fn := fun _ => fun
  | [d1, d2, d3] => { results := [.lit (.bool false)], args := [d1, d2, d3] }
  | _ => none }
def CoreBackWrongFalsely : Prop := coreBackRow.holds Tryz.pinned (OpenSpec.ofChange coreBackWrong)

/- THE SECOND FORM. 'bulk': how many values and letters a reading holds, each counted each time it is reached (what is shared counts as often as it is met; a slice's spare places count too). A statement '..UptoSaid' is the law's where the arguments, and the package variables that the reading takes, are together of bulk at most 1048576: NARROWER than '..Said'. Prove '..Said' where nothing that the law and all that it calls make is longer than what came in: it says more and counts as full. Else prove '..UptoSaid'. A law counts once. -/
mutual
def uptoBulk {H : Type} : DataW H → Nat
  | .lit (.string bytes) => bytes.length + 1
  | .lit _ => 1
  | .nil => 1
  | .ptr d => uptoBulk d + 1
  | .slice elems spare => uptoBulkAll elems + uptoBulkAll spare + 1
  | .agg parts => uptoBulkAll parts + 1
  | .iface _ d => uptoBulk d + 1
  | .map entries => uptoBulkEntries entries + 1
  | .held _ => 1
def uptoBulkAll {H : Type} : List (DataW H) → Nat
  | [] => 0
  | d :: r => uptoBulk d + uptoBulkAll r
def uptoBulkEntries {H : Type} : List (Lit × DataW H) → Nat
  | [] => 0
  | x :: r => uptoBulkEntry x + uptoBulkEntries r
def uptoBulkEntry {H : Type} : Lit × DataW H → Nat
  | (.string bytes, d) => bytes.length + uptoBulk d + 1
  | (_, d) => uptoBulk d + 1
 end
def uptoSmall : (H : Type) → List (DataW H) → Bool := fun _ ds => decide (uptoBulkAll ds ≤ 1048576)
def OpenSpec.upto (s : _root_.Go.ChangeSpec) : _root_.Go.OpenSpec := { _root_.Go.OpenSpec.ofChange s with cond := some uptoSmall }

/-- 'noonmarklaw24.CoreParses', WHERE WHAT IT READS IS OF BULK AT MOST 1048576: true; the input reads as it did. -/
def coreParsesUptoRow : OpenClaim := { program := "ytfmkddccnjidmaagreatdoor", sum := "63bb1c23e00c6457e7e07a68586828d2215a892b7ab0ddab36eac4952cacc4f5", func := "noonmark/noonmarklaw24.CoreParses", spec := "coreParses", inPlace := ["internal/bytealg.IndexByteString", "internal/abi.NoEscape", "internal/bytealg.MakeNoZero", "math/bits.Add64", "maps.clone", "internal/bytealg.IndexString"], unfollowed := true, recurses := true, named := ["math/bits.divideError", "math/bits.overflowError", "internal/bytealg.MaxLen", "unicode/utf8.first", "unicode/utf8.acceptRanges"], plainKeys := false, apart := false, laid := [("unicode/utf8.acceptRanges", laid_unicode_utf8_acceptRanges), ("unicode/utf8.first", laid_unicode_utf8_first)], narrowed := true }
def CoreParsesUptoSaid : Prop := coreParsesUptoRow.holds Tryz.pinned (OpenSpec.upto coreParsesSpec)

/-- 'noonmarklaw24.CoreOnce', WHERE WHAT IT READS IS OF BULK AT MOST 1048576: true; the input reads as it did. -/
def coreOnceUptoRow : OpenClaim := { program := "ytfmkddccnjidmaagreatdoor", sum := "63bb1c23e00c6457e7e07a68586828d2215a892b7ab0ddab36eac4952cacc4f5", func := "noonmark/noonmarklaw24.CoreOnce", spec := "coreOnce", inPlace := ["internal/bytealg.IndexByteString", "internal/abi.NoEscape", "internal/bytealg.MakeNoZero", "math/bits.Add64", "maps.clone", "internal/bytealg.IndexString"], unfollowed := true, recurses := true, named := ["math/bits.divideError", "math/bits.overflowError", "internal/bytealg.MaxLen", "unicode/utf8.first", "unicode/utf8.acceptRanges"], plainKeys := false, apart := false, laid := [("unicode/utf8.acceptRanges", laid_unicode_utf8_acceptRanges), ("unicode/utf8.first", laid_unicode_utf8_first)], narrowed := true }
def CoreOnceUptoSaid : Prop := coreOnceUptoRow.holds Tryz.pinned (OpenSpec.upto coreOnceSpec)

/-- 'noonmarklaw24.CoreOpen', WHERE WHAT IT READS IS OF BULK AT MOST 1048576: true; the input reads as it did. -/
def coreOpenUptoRow : OpenClaim := { program := "ytfmkddccnjidmaagreatdoor", sum := "63bb1c23e00c6457e7e07a68586828d2215a892b7ab0ddab36eac4952cacc4f5", func := "noonmark/noonmarklaw24.CoreOpen", spec := "coreOpen", inPlace := ["internal/bytealg.IndexByteString", "internal/abi.NoEscape", "internal/bytealg.MakeNoZero", "math/bits.Add64", "maps.clone", "internal/bytealg.IndexString"], unfollowed := true, recurses := true, named := ["math/bits.divideError", "math/bits.overflowError", "internal/bytealg.MaxLen", "unicode/utf8.first", "unicode/utf8.acceptRanges"], plainKeys := false, apart := false, laid := [("unicode/utf8.acceptRanges", laid_unicode_utf8_acceptRanges), ("unicode/utf8.first", laid_unicode_utf8_first)], narrowed := true }
def CoreOpenUptoSaid : Prop := coreOpenUptoRow.holds Tryz.pinned (OpenSpec.upto coreOpenSpec)

/-- 'noonmarklaw24.CoreTwice', WHERE WHAT IT READS IS OF BULK AT MOST 1048576: true; the input reads as it did. -/
def coreTwiceUptoRow : OpenClaim := { program := "ytfmkddccnjidmaagreatdoor", sum := "63bb1c23e00c6457e7e07a68586828d2215a892b7ab0ddab36eac4952cacc4f5", func := "noonmark/noonmarklaw24.CoreTwice", spec := "coreTwice", inPlace := ["internal/bytealg.IndexByteString", "internal/abi.NoEscape", "internal/bytealg.MakeNoZero", "math/bits.Add64", "maps.clone", "internal/bytealg.IndexString"], unfollowed := true, recurses := true, named := ["math/bits.divideError", "math/bits.overflowError", "internal/bytealg.MaxLen", "unicode/utf8.first", "unicode/utf8.acceptRanges"], plainKeys := false, apart := false, laid := [("unicode/utf8.acceptRanges", laid_unicode_utf8_acceptRanges), ("unicode/utf8.first", laid_unicode_utf8_first)], narrowed := true }
def CoreTwiceUptoSaid : Prop := coreTwiceUptoRow.holds Tryz.pinned (OpenSpec.upto coreTwiceSpec)

/-- 'noonmarklaw24.CoreNumbers', WHERE WHAT IT READS IS OF BULK AT MOST 1048576: true; the input reads as it did. -/
def coreNumbersUptoRow : OpenClaim := { program := "ytfmkddccnjidmaagreatdoor", sum := "63bb1c23e00c6457e7e07a68586828d2215a892b7ab0ddab36eac4952cacc4f5", func := "noonmark/noonmarklaw24.CoreNumbers", spec := "coreNumbers", inPlace := ["internal/bytealg.IndexByteString", "internal/abi.NoEscape", "internal/bytealg.MakeNoZero", "math/bits.Add64", "maps.clone", "internal/bytealg.IndexString"], unfollowed := true, recurses := true, named := ["math/bits.divideError", "math/bits.overflowError", "internal/bytealg.MaxLen", "unicode/utf8.first", "unicode/utf8.acceptRanges"], plainKeys := false, apart := false, laid := [("unicode/utf8.acceptRanges", laid_unicode_utf8_acceptRanges), ("unicode/utf8.first", laid_unicode_utf8_first)], narrowed := true }
def CoreNumbersUptoSaid : Prop := coreNumbersUptoRow.holds Tryz.pinned (OpenSpec.upto coreNumbersSpec)

/-- 'noonmarklaw24.CoreBack', WHERE WHAT IT READS IS OF BULK AT MOST 1048576: true; the input reads as it did. -/
def coreBackUptoRow : OpenClaim := { program := "ytfmkddccnjidmaagreatdoor", sum := "63bb1c23e00c6457e7e07a68586828d2215a892b7ab0ddab36eac4952cacc4f5", func := "noonmark/noonmarklaw24.CoreBack", spec := "coreBack", inPlace := ["internal/bytealg.IndexByteString", "internal/abi.NoEscape", "internal/bytealg.MakeNoZero", "math/bits.Add64", "maps.clone", "internal/bytealg.IndexString"], unfollowed := true, recurses := true, named := ["math/bits.divideError", "math/bits.overflowError", "internal/bytealg.MaxLen", "unicode/utf8.first", "unicode/utf8.acceptRanges"], plainKeys := false, apart := false, laid := [("unicode/utf8.acceptRanges", laid_unicode_utf8_acceptRanges), ("unicode/utf8.first", laid_unicode_utf8_first)], narrowed := true }
def CoreBackUptoSaid : Prop := coreBackUptoRow.holds Tryz.pinned (OpenSpec.upto coreBackSpec)

end Rows
end Go.Proofs.YtfmkddccnjidmaaGreatDoor
