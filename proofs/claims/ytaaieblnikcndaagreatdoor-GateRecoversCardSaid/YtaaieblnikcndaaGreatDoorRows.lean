/-
  NARROWER THAN 'FOR EVERY INPUT', by the rows' own cells (each row's printed sentence says how): GateRecovers: laid · GateKept: laid · GateQuiet: laid · GateAnew: laid.
  DERIVED. THE GIVEN ROWS OF THIS SEAT. 4 by the template 'for every input the law returns true; each argument reads behind the call as it read before'; 0 by the template 'total and deterministic' (their statements: YtaaieblnikcndaaGreatDoorTotals.lean).
  GIVEN WITH THE SEED: the statements are not yours to turn. If you find one false, say at which input.
  Laid BY PROGRAM, IN A SANDBOX (cutbox-rows.mjs): the forced cells as the released guide's own fill.sh prints them over the translation d54b4a8b68f35e74… (all of the seat's roots in one cut). By AI agents, Wed Nov 11 2026. No macro, syntax, notation, axiom, sorry.
-/
import Derived.Test.YtaaieblnikcndaaGreatDoorChecked
import GoSem.PinnedTables
import GoSem.Claim
import GoSem.ClaimJoined
import GoSem.ClaimMapViews
import Derived.JoinedTies
import Derived.KernelRfl
namespace Go.Proofs.YtaaieblnikcndaaGreatDoor
/- THE CELL 'sum', in the pinned program and in every row, IS THE sha256 OF THE DUMP (.gsa) THAT YtaaieblnikcndaaGreatDoorProg.lean LOADS. Nothing in Lean hashes anything: it is a label: what it is worth is what the hold of that sum in a sandbox is worth. -/
noncomputable def Tryz.pinned : Pinned := { name := "ytaaieblnikcndaagreatdoor", sum := "d54b4a8b68f35e747abf871193461e13fb74889483219b6eb33959d0c3caed07", checked := Tryz.checked }
namespace Rows
def none {H : Type} : Left H := { results := [], args := [] }

/- WHAT THE LISTED PACKAGE-LEVEL VARIABLES READ AS WHEN THE CALL BEGINS. Each datum BY PROGRAM (the guide's laid-datum.mjs) off the statement by which the dump's own 'gosem.cut.vars' lays the variable. In a bare row this is a premise. The card (YtaaieblnikcndaaGreatDoorCards.lean) ties it to the program's text. -/
def laid_unicode_utf8_acceptRanges {H : Type} : DataW H := .agg [.agg [.lit (.int .u8 128), .lit (.int .u8 191)], .agg [.lit (.int .u8 160), .lit (.int .u8 191)], .agg [.lit (.int .u8 128), .lit (.int .u8 159)], .agg [.lit (.int .u8 144), .lit (.int .u8 191)], .agg [.lit (.int .u8 128), .lit (.int .u8 143)], .agg [.lit (.int .u8 0), .lit (.int .u8 0)], .agg [.lit (.int .u8 0), .lit (.int .u8 0)], .agg [.lit (.int .u8 0), .lit (.int .u8 0)], .agg [.lit (.int .u8 0), .lit (.int .u8 0)], .agg [.lit (.int .u8 0), .lit (.int .u8 0)], .agg [.lit (.int .u8 0), .lit (.int .u8 0)], .agg [.lit (.int .u8 0), .lit (.int .u8 0)], .agg [.lit (.int .u8 0), .lit (.int .u8 0)], .agg [.lit (.int .u8 0), .lit (.int .u8 0)], .agg [.lit (.int .u8 0), .lit (.int .u8 0)], .agg [.lit (.int .u8 0), .lit (.int .u8 0)]]
/-- One of Go's own tables, pinned by name: the form's constant. -/
def laid_unicode_utf8_first : DataW Unit := Go.Pinned.utf8First

/-- 'noonmarklaw25.GateRecovers': WHATEVER THE INPUT: true; the input reads as it did. -/
def gateRecoversSpec : ChangeSpec := { name := "gateRecovers", fn := fun _ => fun
  | [d1, d2] => { results := [.lit (.bool true)], args := [d1, d2] }
  | _ => none }
def gateRecoversRow : OpenClaim := { program := "ytaaieblnikcndaagreatdoor", sum := "d54b4a8b68f35e747abf871193461e13fb74889483219b6eb33959d0c3caed07", func := "noonmark/noonmarklaw25.GateRecovers", spec := "gateRecovers", inPlace := ["internal/bytealg.IndexByteString", "internal/bytealg.IndexString", "math/bits.Add64", "maps.clone", "internal/bytealg.MakeNoZero", "internal/abi.NoEscape"], unfollowed := true, recurses := true, named := ["internal/bytealg.MaxLen", "unicode/utf8.first", "unicode/utf8.acceptRanges", "math/bits.divideError", "math/bits.overflowError"], plainKeys := false, apart := false, laid := [("unicode/utf8.acceptRanges", laid_unicode_utf8_acceptRanges), ("unicode/utf8.first", laid_unicode_utf8_first)] }
def GateRecoversSaid : Prop := gateRecoversRow.holds Tryz.pinned (OpenSpec.ofChange gateRecoversSpec)

/-- ITS FALSE NEIGHBOUR: 'it returns false'. Refute it at one input. -/
def gateRecoversWrong : ChangeSpec := { name := "gateRecovers", fn := fun _ => fun
  | [d1, d2] => { results := [.lit (.bool false)], args := [d1, d2] }
  | _ => none }
def GateRecoversWrongFalsely : Prop := gateRecoversRow.holds Tryz.pinned (OpenSpec.ofChange gateRecoversWrong)

/-- 'noonmarklaw25.GateKept': WHATEVER THE INPUT: true; the input reads as it did. -/
def gateKeptSpec : ChangeSpec := { name := "gateKept", fn := fun _ => fun
  | [d1, d2] => { results := [.lit (.bool true)], args := [d1, d2] }
  | _ => none }
def gateKeptRow : OpenClaim := { program := "ytaaieblnikcndaagreatdoor", sum := "d54b4a8b68f35e747abf871193461e13fb74889483219b6eb33959d0c3caed07", func := "noonmark/noonmarklaw25.GateKept", spec := "gateKept", inPlace := ["internal/bytealg.IndexByteString", "internal/bytealg.IndexString", "math/bits.Add64", "maps.clone", "internal/bytealg.MakeNoZero", "internal/abi.NoEscape"], unfollowed := true, recurses := true, named := ["internal/bytealg.MaxLen", "unicode/utf8.first", "unicode/utf8.acceptRanges", "math/bits.divideError", "math/bits.overflowError"], plainKeys := false, apart := false, laid := [("unicode/utf8.acceptRanges", laid_unicode_utf8_acceptRanges), ("unicode/utf8.first", laid_unicode_utf8_first)] }
def GateKeptSaid : Prop := gateKeptRow.holds Tryz.pinned (OpenSpec.ofChange gateKeptSpec)

/-- ITS FALSE NEIGHBOUR: 'it returns false'. Refute it at one input. -/
def gateKeptWrong : ChangeSpec := { name := "gateKept", fn := fun _ => fun
  | [d1, d2] => { results := [.lit (.bool false)], args := [d1, d2] }
  | _ => none }
def GateKeptWrongFalsely : Prop := gateKeptRow.holds Tryz.pinned (OpenSpec.ofChange gateKeptWrong)

/-- 'noonmarklaw25.GateQuiet': WHATEVER THE INPUT: true; the input reads as it did. -/
def gateQuietSpec : ChangeSpec := { name := "gateQuiet", fn := fun _ => fun
  | [d1, d2] => { results := [.lit (.bool true)], args := [d1, d2] }
  | _ => none }
def gateQuietRow : OpenClaim := { program := "ytaaieblnikcndaagreatdoor", sum := "d54b4a8b68f35e747abf871193461e13fb74889483219b6eb33959d0c3caed07", func := "noonmark/noonmarklaw25.GateQuiet", spec := "gateQuiet", inPlace := ["internal/bytealg.IndexByteString", "internal/bytealg.IndexString", "math/bits.Add64", "maps.clone", "internal/bytealg.MakeNoZero", "internal/abi.NoEscape"], unfollowed := true, recurses := true, named := ["internal/bytealg.MaxLen", "unicode/utf8.first", "unicode/utf8.acceptRanges", "math/bits.divideError", "math/bits.overflowError"], plainKeys := false, apart := false, laid := [("unicode/utf8.acceptRanges", laid_unicode_utf8_acceptRanges), ("unicode/utf8.first", laid_unicode_utf8_first)] }
def GateQuietSaid : Prop := gateQuietRow.holds Tryz.pinned (OpenSpec.ofChange gateQuietSpec)

/-- ITS FALSE NEIGHBOUR: 'it returns false'. Refute it at one input. -/
def gateQuietWrong : ChangeSpec := { name := "gateQuiet", fn := fun _ => fun
  | [d1, d2] => { results := [.lit (.bool false)], args := [d1, d2] }
  | _ => none }
def GateQuietWrongFalsely : Prop := gateQuietRow.holds Tryz.pinned (OpenSpec.ofChange gateQuietWrong)

/-- 'noonmarklaw25.GateAnew': WHATEVER THE INPUT: true; the input reads as it did. -/
def gateAnewSpec : ChangeSpec := { name := "gateAnew", fn := fun _ => fun
  | [d1, d2] => { results := [.lit (.bool true)], args := [d1, d2] }
  | _ => none }
def gateAnewRow : OpenClaim := { program := "ytaaieblnikcndaagreatdoor", sum := "d54b4a8b68f35e747abf871193461e13fb74889483219b6eb33959d0c3caed07", func := "noonmark/noonmarklaw25.GateAnew", spec := "gateAnew", inPlace := ["internal/bytealg.IndexByteString", "internal/bytealg.IndexString", "math/bits.Add64", "maps.clone", "internal/bytealg.MakeNoZero", "internal/abi.NoEscape"], unfollowed := true, recurses := true, named := ["internal/bytealg.MaxLen", "unicode/utf8.first", "unicode/utf8.acceptRanges", "math/bits.divideError", "math/bits.overflowError"], plainKeys := false, apart := false, laid := [("unicode/utf8.acceptRanges", laid_unicode_utf8_acceptRanges), ("unicode/utf8.first", laid_unicode_utf8_first)] }
def GateAnewSaid : Prop := gateAnewRow.holds Tryz.pinned (OpenSpec.ofChange gateAnewSpec)

/-- ITS FALSE NEIGHBOUR: 'it returns false'. Refute it at one input. -/
def gateAnewWrong : ChangeSpec := { name := "gateAnew", fn := fun _ => fun
  | [d1, d2] => { results := [.lit (.bool false)], args := [d1, d2] }
  | _ => none }
def GateAnewWrongFalsely : Prop := gateAnewRow.holds Tryz.pinned (OpenSpec.ofChange gateAnewWrong)

/- THE SECOND FORM. 'bulk': how many values and letters a reading holds, each counted each time it is reached (what is shared counts as often as it is met; a slice's spare places count too). A statement '..UptoSaid' is the law's where the arguments, and the package variables that the reading takes, are together of bulk at most 1048576: NARROWER than '..Said'. Prove '..Said' where nothing that the law and all that it calls make is longer than what came in: it says more and counts as full. Else prove '..UptoSaid'. A law counts once. -/
mutual
def uptoBulk {H : Type} : DataW H → Nat
  | .lit (.string bytes) => bytes.length + 1
  | .lit _ => 1
  | .nil => 1
  | .ptr d => uptoBulk d + 1
  | .slice elems spare => uptoBulkAll elems + uptoBulkAll spare + 1
  | .agg parts => uptoBulkAll parts + 1
  | .iface _ d => uptoBulk d + 1
  | .map entries => uptoBulkEntries entries + 1
  | .held _ => 1
def uptoBulkAll {H : Type} : List (DataW H) → Nat
  | [] => 0
  | d :: r => uptoBulk d + uptoBulkAll r
def uptoBulkEntries {H : Type} : List (Lit × DataW H) → Nat
  | [] => 0
  | x :: r => uptoBulkEntry x + uptoBulkEntries r
def uptoBulkEntry {H : Type} : Lit × DataW H → Nat
  | (.string bytes, d) => bytes.length + uptoBulk d + 1
  | (_, d) => uptoBulk d + 1
 end
def uptoSmall : (H : Type) → List (DataW H) → Bool := fun _ ds => decide (uptoBulkAll ds ≤ 1048576)
def OpenSpec.upto (s : _root_.Go.ChangeSpec) : _root_.Go.OpenSpec := { _root_.Go.OpenSpec.ofChange s with cond := some uptoSmall }

/-- 'noonmarklaw25.GateRecovers', WHERE WHAT IT READS IS OF BULK AT MOST 1048576: true; the input reads as it did. -/
def gateRecoversUptoRow : OpenClaim := { program := "ytaaieblnikcndaagreatdoor", sum := "d54b4a8b68f35e747abf871193461e13fb74889483219b6eb33959d0c3caed07", func := "noonmark/noonmarklaw25.GateRecovers", spec := "gateRecovers", inPlace := ["internal/bytealg.IndexByteString", "internal/bytealg.IndexString", "math/bits.Add64", "maps.clone", "internal/bytealg.MakeNoZero", "internal/abi.NoEscape"], unfollowed := true, recurses := true, named := ["internal/bytealg.MaxLen", "unicode/utf8.first", "unicode/utf8.acceptRanges", "math/bits.divideError", "math/bits.overflowError"], plainKeys := false, apart := false, laid := [("unicode/utf8.acceptRanges", laid_unicode_utf8_acceptRanges), ("unicode/utf8.first", laid_unicode_utf8_first)], narrowed := true }
def GateRecoversUptoSaid : Prop := gateRecoversUptoRow.holds Tryz.pinned (OpenSpec.upto gateRecoversSpec)

/-- 'noonmarklaw25.GateKept', WHERE WHAT IT READS IS OF BULK AT MOST 1048576: true; the input reads as it did. -/
def gateKeptUptoRow : OpenClaim := { program := "ytaaieblnikcndaagreatdoor", sum := "d54b4a8b68f35e747abf871193461e13fb74889483219b6eb33959d0c3caed07", func := "noonmark/noonmarklaw25.GateKept", spec := "gateKept", inPlace := ["internal/bytealg.IndexByteString", "internal/bytealg.IndexString", "math/bits.Add64", "maps.clone", "internal/bytealg.MakeNoZero", "internal/abi.NoEscape"], unfollowed := true, recurses := true, named := ["internal/bytealg.MaxLen", "unicode/utf8.first", "unicode/utf8.acceptRanges", "math/bits.divideError", "math/bits.overflowError"], plainKeys := false, apart := false, laid := [("unicode/utf8.acceptRanges", laid_unicode_utf8_acceptRanges), ("unicode/utf8.first", laid_unicode_utf8_first)], narrowed := true }
def GateKeptUptoSaid : Prop := gateKeptUptoRow.holds Tryz.pinned (OpenSpec.upto gateKeptSpec)

/-- 'noonmarklaw25.GateQuiet', WHERE WHAT IT READS IS OF BULK AT MOST 1048576: true; the input reads as it did. -/
def gateQuietUptoRow : OpenClaim := { program := "ytaaieblnikcndaagreatdoor", sum := "d54b4a8b68f35e747abf871193461e13fb74889483219b6eb33959d0c3caed07", func := "noonmark/noonmarklaw25.GateQuiet", spec := "gateQuiet", inPlace := ["internal/bytealg.IndexByteString", "internal/bytealg.IndexString", "math/bits.Add64", "maps.clone", "internal/bytealg.MakeNoZero", "internal/abi.NoEscape"], unfollowed := true, recurses := true, named := ["internal/bytealg.MaxLen", "unicode/utf8.first", "unicode/utf8.acceptRanges", "math/bits.divideError", "math/bits.overflowError"], plainKeys := false, apart := false, laid := [("unicode/utf8.acceptRanges", laid_unicode_utf8_acceptRanges), ("unicode/utf8.first", laid_unicode_utf8_first)], narrowed := true }
def GateQuietUptoSaid : Prop := gateQuietUptoRow.holds Tryz.pinned (OpenSpec.upto gateQuietSpec)

/-- 'noonmarklaw25.GateAnew', WHERE WHAT IT READS IS OF BULK AT MOST 1048576: true; the input reads as it did. -/
def gateAnewUptoRow : OpenClaim := { program := "ytaaieblnikcndaagreatdoor", sum := "d54b4a8b68f35e747abf871193461e13fb74889483219b6eb33959d0c3caed07", func := "noonmark/noonmarklaw25.GateAnew", spec := "gateAnew", inPlace := ["internal/bytealg.IndexByteString", "internal/bytealg.IndexString", "math/bits.Add64", "maps.clone", "internal/bytealg.MakeNoZero", "internal/abi.NoEscape"], unfollowed := true, recurses := true, named := ["internal/bytealg.MaxLen", "unicode/utf8.first", "unicode/utf8.acceptRanges", "math/bits.divideError", "math/bits.overflowError"], plainKeys := false, apart := false, laid := [("unicode/utf8.acceptRanges", laid_unicode_utf8_acceptRanges), ("unicode/utf8.first", laid_unicode_utf8_first)], narrowed := true }
def GateAnewUptoSaid : Prop := gateAnewUptoRow.holds Tryz.pinned (OpenSpec.upto gateAnewSpec)

end Rows
end Go.Proofs.YtaaieblnikcndaaGreatDoor
