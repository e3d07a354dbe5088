/-
  No cell of these rows narrows 'for every input' (looked for: loops, veiled, ifaces, maps, wideKeys, modest, calm, conditions, laid).
  DERIVED. THE GIVEN ROWS OF THIS SEAT. 10 by the template 'for every input the law returns true; each argument reads behind the call as it read before'; 0 by the template 'total and deterministic' (their statements: YtomdcdfcdeaabaaTotals.lean).
  GIVEN WITH THE SEED: the statements are not yours to turn. If you find one false, say at which input.
  Laid BY PROGRAM, IN A SANDBOX (cutbox-rows.mjs): the forced cells as the released guide's own fill.sh prints them over the translation db9c6dec9f53b5c7… (all of the seat's roots in one cut). By AI agents, Wed Nov 11 2026. No macro, syntax, notation, axiom, sorry.
-/
import Derived.Test.YtomdcdfcdeaabaaChecked
import GoSem.Claim
import GoSem.ClaimJoined
import GoSem.ClaimMapViews
import Derived.JoinedTies
import Derived.KernelRfl
namespace Go.Proofs.Ytomdcdfcdeaabaa
/- THE CELL 'sum', in the pinned program and in every row, IS THE sha256 OF THE DUMP (.gsa) THAT YtomdcdfcdeaabaaProg.lean LOADS. Nothing in Lean hashes anything: it is a label: what it is worth is what the hold of that sum in a sandbox is worth. -/
noncomputable def Try.pinned : Pinned := { name := "ytomdcdfcdeaabaa", sum := "db9c6dec9f53b5c7ed83c18e5f7395dc9f9389f24eaf673516a70083ce64e6b8", checked := Try.checked }
namespace Rows
def none {H : Type} : Left H := { results := [], args := [] }

/-- 'noonmarklaw10.DiskCalls': WHATEVER THE INPUT: true; the input reads as it did. -/
def diskCallsSpec : ChangeSpec := { name := "diskCalls", fn := fun _ => fun
  | [d1, d2] => { results := [.lit (.bool true)], args := [d1, d2] }
  | _ => none }
def diskCallsRow : OpenClaim := { program := "ytomdcdfcdeaabaa", sum := "db9c6dec9f53b5c7ed83c18e5f7395dc9f9389f24eaf673516a70083ce64e6b8", func := "noonmark/noonmarklaw10.DiskCalls", spec := "diskCalls", inPlace := ["maps.clone"], unfollowed := true, recurses := true, apart := false }
def DiskCallsSaid : Prop := diskCallsRow.holds Try.pinned (OpenSpec.ofChange diskCallsSpec)

/-- ITS FALSE NEIGHBOUR: 'it returns false'. Refute it at one input. -/
def diskCallsWrong : ChangeSpec := { name := "diskCalls", fn := fun _ => fun
  | [d1, d2] => { results := [.lit (.bool false)], args := [d1, d2] }
  | _ => none }
def DiskCallsWrongFalsely : Prop := diskCallsRow.holds Try.pinned (OpenSpec.ofChange diskCallsWrong)

/-- 'noonmarklaw10.DiskCrash': WHATEVER THE INPUT: true; the input reads as it did. -/
def diskCrashSpec : ChangeSpec := { name := "diskCrash", fn := fun _ => fun
  | [d1, d2] => { results := [.lit (.bool true)], args := [d1, d2] }
  | _ => none }
def diskCrashRow : OpenClaim := { program := "ytomdcdfcdeaabaa", sum := "db9c6dec9f53b5c7ed83c18e5f7395dc9f9389f24eaf673516a70083ce64e6b8", func := "noonmark/noonmarklaw10.DiskCrash", spec := "diskCrash", inPlace := ["maps.clone"], unfollowed := true, recurses := true, apart := false }
def DiskCrashSaid : Prop := diskCrashRow.holds Try.pinned (OpenSpec.ofChange diskCrashSpec)

/-- ITS FALSE NEIGHBOUR: 'it returns false'. Refute it at one input. -/
def diskCrashWrong : ChangeSpec := { name := "diskCrash", fn := fun _ => fun
  | [d1, d2] => { results := [.lit (.bool false)], args := [d1, d2] }
  | _ => none }
def DiskCrashWrongFalsely : Prop := diskCrashRow.holds Try.pinned (OpenSpec.ofChange diskCrashWrong)

/-- 'noonmarklaw10.DiskSync': WHATEVER THE INPUT: true; the input reads as it did. -/
def diskSyncSpec : ChangeSpec := { name := "diskSync", fn := fun _ => fun
  | [d1, d2, d3] => { results := [.lit (.bool true)], args := [d1, d2, d3] }
  | _ => none }
def diskSyncRow : OpenClaim := { program := "ytomdcdfcdeaabaa", sum := "db9c6dec9f53b5c7ed83c18e5f7395dc9f9389f24eaf673516a70083ce64e6b8", func := "noonmark/noonmarklaw10.DiskSync", spec := "diskSync", inPlace := ["maps.clone"], unfollowed := true, recurses := true, apart := false }
def DiskSyncSaid : Prop := diskSyncRow.holds Try.pinned (OpenSpec.ofChange diskSyncSpec)

/-- ITS FALSE NEIGHBOUR: 'it returns false'. Refute it at one input. -/
def diskSyncWrong : ChangeSpec := { name := "diskSync", fn := fun _ => fun
  | [d1, d2, d3] => { results := [.lit (.bool false)], args := [d1, d2, d3] }
  | _ => none }
def DiskSyncWrongFalsely : Prop := diskSyncRow.holds Try.pinned (OpenSpec.ofChange diskSyncWrong)

/-- 'noonmarklaw10.DiskGone': WHATEVER THE INPUT: true; the input reads as it did. -/
def diskGoneSpec : ChangeSpec := { name := "diskGone", fn := fun _ => fun
  | [d1, d2, d3] => { results := [.lit (.bool true)], args := [d1, d2, d3] }
  | _ => none }
def diskGoneRow : OpenClaim := { program := "ytomdcdfcdeaabaa", sum := "db9c6dec9f53b5c7ed83c18e5f7395dc9f9389f24eaf673516a70083ce64e6b8", func := "noonmark/noonmarklaw10.DiskGone", spec := "diskGone", inPlace := ["maps.clone"], unfollowed := true, recurses := true, apart := false }
def DiskGoneSaid : Prop := diskGoneRow.holds Try.pinned (OpenSpec.ofChange diskGoneSpec)

/-- ITS FALSE NEIGHBOUR: 'it returns false'. Refute it at one input. -/
def diskGoneWrong : ChangeSpec := { name := "diskGone", fn := fun _ => fun
  | [d1, d2, d3] => { results := [.lit (.bool false)], args := [d1, d2, d3] }
  | _ => none }
def DiskGoneWrongFalsely : Prop := diskGoneRow.holds Try.pinned (OpenSpec.ofChange diskGoneWrong)

/-- 'noonmarklaw11.ReelBytes': WHATEVER THE INPUT: true; the input reads as it did. -/
def reelBytesSpec : ChangeSpec := { name := "reelBytes", fn := fun _ => fun
  | [d1, d2, d3] => { results := [.lit (.bool true)], args := [d1, d2, d3] }
  | _ => none }
def reelBytesRow : OpenClaim := { program := "ytomdcdfcdeaabaa", sum := "db9c6dec9f53b5c7ed83c18e5f7395dc9f9389f24eaf673516a70083ce64e6b8", func := "noonmark/noonmarklaw11.ReelBytes", spec := "reelBytes", inPlace := ["internal/bytealg.MakeNoZero"], unfollowed := true, recurses := true, apart := false }
def ReelBytesSaid : Prop := reelBytesRow.holds Try.pinned (OpenSpec.ofChange reelBytesSpec)

/-- ITS FALSE NEIGHBOUR: 'it returns false'. Refute it at one input. -/
def reelBytesWrong : ChangeSpec := { name := "reelBytes", fn := fun _ => fun
  | [d1, d2, d3] => { results := [.lit (.bool false)], args := [d1, d2, d3] }
  | _ => none }
def ReelBytesWrongFalsely : Prop := reelBytesRow.holds Try.pinned (OpenSpec.ofChange reelBytesWrong)

/-- 'noonmarklaw11.ReelCalls': WHATEVER THE INPUT: true; the input reads as it did. -/
def reelCallsSpec : ChangeSpec := { name := "reelCalls", fn := fun _ => fun
  | [d1, d2] => { results := [.lit (.bool true)], args := [d1, d2] }
  | _ => none }
def reelCallsRow : OpenClaim := { program := "ytomdcdfcdeaabaa", sum := "db9c6dec9f53b5c7ed83c18e5f7395dc9f9389f24eaf673516a70083ce64e6b8", func := "noonmark/noonmarklaw11.ReelCalls", spec := "reelCalls", inPlace := ["internal/bytealg.MakeNoZero"], unfollowed := true, recurses := true, apart := false }
def ReelCallsSaid : Prop := reelCallsRow.holds Try.pinned (OpenSpec.ofChange reelCallsSpec)

/-- ITS FALSE NEIGHBOUR: 'it returns false'. Refute it at one input. -/
def reelCallsWrong : ChangeSpec := { name := "reelCalls", fn := fun _ => fun
  | [d1, d2] => { results := [.lit (.bool false)], args := [d1, d2] }
  | _ => none }
def ReelCallsWrongFalsely : Prop := reelCallsRow.holds Try.pinned (OpenSpec.ofChange reelCallsWrong)

/-- 'noonmarklaw11.ReelOpens': WHATEVER THE INPUT: true; the input reads as it did. -/
def reelOpensSpec : ChangeSpec := { name := "reelOpens", fn := fun _ => fun
  | [d1, d2] => { results := [.lit (.bool true)], args := [d1, d2] }
  | _ => none }
def reelOpensRow : OpenClaim := { program := "ytomdcdfcdeaabaa", sum := "db9c6dec9f53b5c7ed83c18e5f7395dc9f9389f24eaf673516a70083ce64e6b8", func := "noonmark/noonmarklaw11.ReelOpens", spec := "reelOpens", inPlace := ["internal/bytealg.MakeNoZero"], unfollowed := true, recurses := true, apart := false }
def ReelOpensSaid : Prop := reelOpensRow.holds Try.pinned (OpenSpec.ofChange reelOpensSpec)

/-- ITS FALSE NEIGHBOUR: 'it returns false'. Refute it at one input. -/
def reelOpensWrong : ChangeSpec := { name := "reelOpens", fn := fun _ => fun
  | [d1, d2] => { results := [.lit (.bool false)], args := [d1, d2] }
  | _ => none }
def ReelOpensWrongFalsely : Prop := reelOpensRow.holds Try.pinned (OpenSpec.ofChange reelOpensWrong)

/-- 'noonmarklaw11.ReelCrash': WHATEVER THE INPUT: true; the input reads as it did. -/
def reelCrashSpec : ChangeSpec := { name := "reelCrash", fn := fun _ => fun
  | [d1, d2, d3] => { results := [.lit (.bool true)], args := [d1, d2, d3] }
  | _ => none }
def reelCrashRow : OpenClaim := { program := "ytomdcdfcdeaabaa", sum := "db9c6dec9f53b5c7ed83c18e5f7395dc9f9389f24eaf673516a70083ce64e6b8", func := "noonmark/noonmarklaw11.ReelCrash", spec := "reelCrash", inPlace := ["internal/bytealg.MakeNoZero"], unfollowed := true, recurses := true, apart := false }
def ReelCrashSaid : Prop := reelCrashRow.holds Try.pinned (OpenSpec.ofChange reelCrashSpec)

/-- ITS FALSE NEIGHBOUR: 'it returns false'. Refute it at one input. -/
def reelCrashWrong : ChangeSpec := { name := "reelCrash", fn := fun _ => fun
  | [d1, d2, d3] => { results := [.lit (.bool false)], args := [d1, d2, d3] }
  | _ => none }
def ReelCrashWrongFalsely : Prop := reelCrashRow.holds Try.pinned (OpenSpec.ofChange reelCrashWrong)

/-- 'noonmarklaw11.ReelDrops': WHATEVER THE INPUT: true; the input reads as it did. -/
def reelDropsSpec : ChangeSpec := { name := "reelDrops", fn := fun _ => fun
  | [d1, d2, d3] => { results := [.lit (.bool true)], args := [d1, d2, d3] }
  | _ => none }
def reelDropsRow : OpenClaim := { program := "ytomdcdfcdeaabaa", sum := "db9c6dec9f53b5c7ed83c18e5f7395dc9f9389f24eaf673516a70083ce64e6b8", func := "noonmark/noonmarklaw11.ReelDrops", spec := "reelDrops", inPlace := ["internal/bytealg.MakeNoZero"], unfollowed := true, recurses := true, apart := false }
def ReelDropsSaid : Prop := reelDropsRow.holds Try.pinned (OpenSpec.ofChange reelDropsSpec)

/-- ITS FALSE NEIGHBOUR: 'it returns false'. Refute it at one input. -/
def reelDropsWrong : ChangeSpec := { name := "reelDrops", fn := fun _ => fun
  | [d1, d2, d3] => { results := [.lit (.bool false)], args := [d1, d2, d3] }
  | _ => none }
def ReelDropsWrongFalsely : Prop := reelDropsRow.holds Try.pinned (OpenSpec.ofChange reelDropsWrong)

/-- 'noonmarklaw12.BookTrims': WHATEVER THE INPUT: true; the input reads as it did. -/
def bookTrimsSpec : ChangeSpec := { name := "bookTrims", fn := fun _ => fun
  | [d1, d2] => { results := [.lit (.bool true)], args := [d1, d2] }
  | _ => none }
def bookTrimsRow : OpenClaim := { program := "ytomdcdfcdeaabaa", sum := "db9c6dec9f53b5c7ed83c18e5f7395dc9f9389f24eaf673516a70083ce64e6b8", func := "noonmark/noonmarklaw12.BookTrims", spec := "bookTrims", inPlace := ["internal/bytealg.MakeNoZero"], unfollowed := true, recurses := true, apart := false }
def BookTrimsSaid : Prop := bookTrimsRow.holds Try.pinned (OpenSpec.ofChange bookTrimsSpec)

/-- ITS FALSE NEIGHBOUR: 'it returns false'. Refute it at one input. -/
def bookTrimsWrong : ChangeSpec := { name := "bookTrims", fn := fun _ => fun
  | [d1, d2] => { results := [.lit (.bool false)], args := [d1, d2] }
  | _ => none }
def BookTrimsWrongFalsely : Prop := bookTrimsRow.holds Try.pinned (OpenSpec.ofChange bookTrimsWrong)

/- THE SECOND FORM. 'bulk': how many values and letters a reading holds, each counted each time it is reached (what is shared counts as often as it is met; a slice's spare places count too). A statement '..UptoSaid' is the law's where the arguments, and the package variables that the reading takes, are together of bulk at most 1048576: NARROWER than '..Said'. Prove '..Said' where nothing that the law and all that it calls make is longer than what came in: it says more and counts as full. Else prove '..UptoSaid'. A law counts once. -/
mutual
def uptoBulk {H : Type} : DataW H → Nat
  | .lit (.string bytes) => bytes.length + 1
  | .lit _ => 1
  | .nil => 1
  | .ptr d => uptoBulk d + 1
  | .slice elems spare => uptoBulkAll elems + uptoBulkAll spare + 1
  | .agg parts => uptoBulkAll parts + 1
  | .iface _ d => uptoBulk d + 1
  | .map entries => uptoBulkEntries entries + 1
  | .held _ => 1
def uptoBulkAll {H : Type} : List (DataW H) → Nat
  | [] => 0
  | d :: r => uptoBulk d + uptoBulkAll r
def uptoBulkEntries {H : Type} : List (Lit × DataW H) → Nat
  | [] => 0
  | x :: r => uptoBulkEntry x + uptoBulkEntries r
def uptoBulkEntry {H : Type} : Lit × DataW H → Nat
  | (.string bytes, d) => bytes.length + uptoBulk d + 1
  | (_, d) => uptoBulk d + 1
 end
def uptoSmall : (H : Type) → List (DataW H) → Bool := fun _ ds => decide (uptoBulkAll ds ≤ 1048576)
def OpenSpec.upto (s : _root_.Go.ChangeSpec) : _root_.Go.OpenSpec := { _root_.Go.OpenSpec.ofChange s with cond := some uptoSmall }

/-- 'noonmarklaw10.DiskCalls', WHERE WHAT IT READS IS OF BULK AT MOST 1048576: true; the input reads as it did. -/
def diskCallsUptoRow : OpenClaim := { program := "ytomdcdfcdeaabaa", sum := "db9c6dec9f53b5c7ed83c18e5f7395dc9f9389f24eaf673516a70083ce64e6b8", func := "noonmark/noonmarklaw10.DiskCalls", spec := "diskCalls", inPlace := ["maps.clone"], unfollowed := true, recurses := true, apart := false, narrowed := true }
def DiskCallsUptoSaid : Prop := diskCallsUptoRow.holds Try.pinned (OpenSpec.upto diskCallsSpec)

/-- 'noonmarklaw10.DiskCrash', WHERE WHAT IT READS IS OF BULK AT MOST 1048576: true; the input reads as it did. -/
def diskCrashUptoRow : OpenClaim := { program := "ytomdcdfcdeaabaa", sum := "db9c6dec9f53b5c7ed83c18e5f7395dc9f9389f24eaf673516a70083ce64e6b8", func := "noonmark/noonmarklaw10.DiskCrash", spec := "diskCrash", inPlace := ["maps.clone"], unfollowed := true, recurses := true, apart := false, narrowed := true }
def DiskCrashUptoSaid : Prop := diskCrashUptoRow.holds Try.pinned (OpenSpec.upto diskCrashSpec)

/-- 'noonmarklaw10.DiskSync', WHERE WHAT IT READS IS OF BULK AT MOST 1048576: true; the input reads as it did. -/
def diskSyncUptoRow : OpenClaim := { program := "ytomdcdfcdeaabaa", sum := "db9c6dec9f53b5c7ed83c18e5f7395dc9f9389f24eaf673516a70083ce64e6b8", func := "noonmark/noonmarklaw10.DiskSync", spec := "diskSync", inPlace := ["maps.clone"], unfollowed := true, recurses := true, apart := false, narrowed := true }
def DiskSyncUptoSaid : Prop := diskSyncUptoRow.holds Try.pinned (OpenSpec.upto diskSyncSpec)

/-- 'noonmarklaw10.DiskGone', WHERE WHAT IT READS IS OF BULK AT MOST 1048576: true; the input reads as it did. -/
def diskGoneUptoRow : OpenClaim := { program := "ytomdcdfcdeaabaa", sum := "db9c6dec9f53b5c7ed83c18e5f7395dc9f9389f24eaf673516a70083ce64e6b8", func := "noonmark/noonmarklaw10.DiskGone", spec := "diskGone", inPlace := ["maps.clone"], unfollowed := true, recurses := true, apart := false, narrowed := true }
def DiskGoneUptoSaid : Prop := diskGoneUptoRow.holds Try.pinned (OpenSpec.upto diskGoneSpec)

/-- 'noonmarklaw11.ReelBytes', WHERE WHAT IT READS IS OF BULK AT MOST 1048576: true; the input reads as it did. -/
def reelBytesUptoRow : OpenClaim := { program := "ytomdcdfcdeaabaa", sum := "db9c6dec9f53b5c7ed83c18e5f7395dc9f9389f24eaf673516a70083ce64e6b8", func := "noonmark/noonmarklaw11.ReelBytes", spec := "reelBytes", inPlace := ["internal/bytealg.MakeNoZero"], unfollowed := true, recurses := true, apart := false, narrowed := true }
def ReelBytesUptoSaid : Prop := reelBytesUptoRow.holds Try.pinned (OpenSpec.upto reelBytesSpec)

/-- 'noonmarklaw11.ReelCalls', WHERE WHAT IT READS IS OF BULK AT MOST 1048576: true; the input reads as it did. -/
def reelCallsUptoRow : OpenClaim := { program := "ytomdcdfcdeaabaa", sum := "db9c6dec9f53b5c7ed83c18e5f7395dc9f9389f24eaf673516a70083ce64e6b8", func := "noonmark/noonmarklaw11.ReelCalls", spec := "reelCalls", inPlace := ["internal/bytealg.MakeNoZero"], unfollowed := true, recurses := true, apart := false, narrowed := true }
def ReelCallsUptoSaid : Prop := reelCallsUptoRow.holds Try.pinned (OpenSpec.upto reelCallsSpec)

/-- 'noonmarklaw11.ReelOpens', WHERE WHAT IT READS IS OF BULK AT MOST 1048576: true; the input reads as it did. -/
def reelOpensUptoRow : OpenClaim := { program := "ytomdcdfcdeaabaa", sum := "db9c6dec9f53b5c7ed83c18e5f7395dc9f9389f24eaf673516a70083ce64e6b8", func := "noonmark/noonmarklaw11.ReelOpens", spec := "reelOpens", inPlace := ["internal/bytealg.MakeNoZero"], unfollowed := true, recurses := true, apart := false, narrowed := true }
def ReelOpensUptoSaid : Prop := reelOpensUptoRow.holds Try.pinned (OpenSpec.upto reelOpensSpec)

/-- 'noonmarklaw11.ReelCrash', WHERE WHAT IT READS IS OF BULK AT MOST 1048576: true; the input reads as it did. -/
def reelCrashUptoRow : OpenClaim := { program := "ytomdcdfcdeaabaa", sum := "db9c6dec9f53b5c7ed83c18e5f7395dc9f9389f24eaf673516a70083ce64e6b8", func := "noonmark/noonmarklaw11.ReelCrash", spec := "reelCrash", inPlace := ["internal/bytealg.MakeNoZero"], unfollowed := true, recurses := true, apart := false, narrowed := true }
def ReelCrashUptoSaid : Prop := reelCrashUptoRow.holds Try.pinned (OpenSpec.upto reelCrashSpec)

/-- 'noonmarklaw11.ReelDrops', WHERE WHAT IT READS IS OF BULK AT MOST 1048576: true; the input reads as it did. -/
def reelDropsUptoRow : OpenClaim := { program := "ytomdcdfcdeaabaa", sum := "db9c6dec9f53b5c7ed83c18e5f7395dc9f9389f24eaf673516a70083ce64e6b8", func := "noonmark/noonmarklaw11.ReelDrops", spec := "reelDrops", inPlace := ["internal/bytealg.MakeNoZero"], unfollowed := true, recurses := true, apart := false, narrowed := true }
def ReelDropsUptoSaid : Prop := reelDropsUptoRow.holds Try.pinned (OpenSpec.upto reelDropsSpec)

/-- 'noonmarklaw12.BookTrims', WHERE WHAT IT READS IS OF BULK AT MOST 1048576: true; the input reads as it did. -/
def bookTrimsUptoRow : OpenClaim := { program := "ytomdcdfcdeaabaa", sum := "db9c6dec9f53b5c7ed83c18e5f7395dc9f9389f24eaf673516a70083ce64e6b8", func := "noonmark/noonmarklaw12.BookTrims", spec := "bookTrims", inPlace := ["internal/bytealg.MakeNoZero"], unfollowed := true, recurses := true, apart := false, narrowed := true }
def BookTrimsUptoSaid : Prop := bookTrimsUptoRow.holds Try.pinned (OpenSpec.upto bookTrimsSpec)

end Rows
end Go.Proofs.Ytomdcdfcdeaabaa
