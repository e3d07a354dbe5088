/-
  No cell of these rows narrows 'for every input' (looked for: loops, veiled, ifaces, maps, wideKeys, modest, calm, conditions, laid).
  DERIVED. THE GIVEN ROWS OF THIS SEAT. 3 by the template 'for every input the law returns true; each argument reads behind the call as it read before'; 0 by the template 'total and deterministic' (their statements: YtomokmhkgpfkmaaTotals.lean).
  GIVEN WITH THE SEED: the statements are not yours to turn. If you find one false, say at which input.
  Laid BY PROGRAM, IN A SANDBOX (cutbox-rows.mjs): the forced cells as the released guide's own fill.sh prints them over the translation b1c5086510f57158… (all of the seat's roots in one cut). By AI agents, Wed Nov 11 2026. No macro, syntax, notation, axiom, sorry.
-/
import Derived.Test.YtomokmhkgpfkmaaChecked
import GoSem.Claim
import GoSem.ClaimJoined
import GoSem.ClaimMapViews
import Derived.JoinedTies
import Derived.KernelRfl
namespace Go.Proofs.Ytomokmhkgpfkmaa
/- THE CELL 'sum', in the pinned program and in every row, IS THE sha256 OF THE DUMP (.gsa) THAT YtomokmhkgpfkmaaProg.lean LOADS. Nothing in Lean hashes anything: it is a label: what it is worth is what the hold of that sum in a sandbox is worth. -/
noncomputable def Try.pinned : Pinned := { name := "ytomokmhkgpfkmaa", sum := "b1c5086510f571586db1c9c2dfd14d95ad9037beb3b5874b9b80c54ccbd2ccdd", checked := Try.checked }
namespace Rows
def none {H : Type} : Left H := { results := [], args := [] }

/-- 'noonmarklaw20.MarkRises': WHATEVER THE INPUT: true; the input reads as it did. -/
def markRisesSpec : ChangeSpec := { name := "markRises", fn := fun _ => fun
  | [d1, d2] => { results := [.lit (.bool true)], args := [d1, d2] }
  | _ => none }
def markRisesRow : OpenClaim := { program := "ytomokmhkgpfkmaa", sum := "b1c5086510f571586db1c9c2dfd14d95ad9037beb3b5874b9b80c54ccbd2ccdd", func := "noonmark/noonmarklaw20.MarkRises", spec := "markRises", inPlace := ["maps.clone"], unfollowed := true, recurses := true, apart := false }
def MarkRisesSaid : Prop := markRisesRow.holds Try.pinned (OpenSpec.ofChange markRisesSpec)

/-- ITS FALSE NEIGHBOUR: 'it returns false'. Refute it at one input. -/
def markRisesWrong : ChangeSpec := { name := "markRises", fn := fun _ => fun
  | [d1, d2] => { results := [.lit (.bool false)], args := [d1, d2] }
  | _ => none }
def MarkRisesWrongFalsely : Prop := markRisesRow.holds Try.pinned (OpenSpec.ofChange markRisesWrong)

/-- 'noonmarklaw20.MarkKeeps': WHATEVER THE INPUT: true; the input reads as it did. -/
def markKeepsSpec : ChangeSpec := { name := "markKeeps", fn := fun _ => fun
  | [d1, d2, d3] => { results := [.lit (.bool true)], args := [d1, d2, d3] }
  | _ => none }
def markKeepsRow : OpenClaim := { program := "ytomokmhkgpfkmaa", sum := "b1c5086510f571586db1c9c2dfd14d95ad9037beb3b5874b9b80c54ccbd2ccdd", func := "noonmark/noonmarklaw20.MarkKeeps", spec := "markKeeps", inPlace := ["maps.clone"], unfollowed := true, recurses := true, apart := false }
def MarkKeepsSaid : Prop := markKeepsRow.holds Try.pinned (OpenSpec.ofChange markKeepsSpec)

/-- ITS FALSE NEIGHBOUR: 'it returns false'. Refute it at one input. -/
def markKeepsWrong : ChangeSpec := { name := "markKeeps", fn := fun _ => fun
  | [d1, d2, d3] => { results := [.lit (.bool false)], args := [d1, d2, d3] }
  | _ => none }
def MarkKeepsWrongFalsely : Prop := markKeepsRow.holds Try.pinned (OpenSpec.ofChange markKeepsWrong)

/-- 'noonmarklaw20.MarkTwice': WHATEVER THE INPUT: true; the input reads as it did. -/
def markTwiceSpec : ChangeSpec := { name := "markTwice", fn := fun _ => fun
  | [d1, d2, d3] => { results := [.lit (.bool true)], args := [d1, d2, d3] }
  | _ => none }
def markTwiceRow : OpenClaim := { program := "ytomokmhkgpfkmaa", sum := "b1c5086510f571586db1c9c2dfd14d95ad9037beb3b5874b9b80c54ccbd2ccdd", func := "noonmark/noonmarklaw20.MarkTwice", spec := "markTwice", inPlace := ["maps.clone"], unfollowed := true, recurses := true, apart := false }
def MarkTwiceSaid : Prop := markTwiceRow.holds Try.pinned (OpenSpec.ofChange markTwiceSpec)

/-- ITS FALSE NEIGHBOUR: 'it returns false'. Refute it at one input. -/
def markTwiceWrong : ChangeSpec := { name := "markTwice", fn := fun _ => fun
  | [d1, d2, d3] => { results := [.lit (.bool false)], args := [d1, d2, d3] }
  | _ => none }
def MarkTwiceWrongFalsely : Prop := markTwiceRow.holds Try.pinned (OpenSpec.ofChange markTwiceWrong)

/- THE SECOND FORM. 'bulk': how many values and letters a reading holds, each counted each time it is reached (what is shared counts as often as it is met; a slice's spare places count too). A statement '..UptoSaid' is the law's where the arguments, and the package variables that the reading takes, are together of bulk at most 1048576: NARROWER than '..Said'. Prove '..Said' where nothing that the law and all that it calls make is longer than what came in: it says more and counts as full. Else prove '..UptoSaid'. A law counts once. -/
mutual
def uptoBulk {H : Type} : DataW H → Nat
  | .lit (.string bytes) => bytes.length + 1
  | .lit _ => 1
  | .nil => 1
  | .ptr d => uptoBulk d + 1
  | .slice elems spare => uptoBulkAll elems + uptoBulkAll spare + 1
  | .agg parts => uptoBulkAll parts + 1
  | .iface _ d => uptoBulk d + 1
  | .map entries => uptoBulkEntries entries + 1
  | .held _ => 1
def uptoBulkAll {H : Type} : List (DataW H) → Nat
  | [] => 0
  | d :: r => uptoBulk d + uptoBulkAll r
def uptoBulkEntries {H : Type} : List (Lit × DataW H) → Nat
  | [] => 0
  | x :: r => uptoBulkEntry x + uptoBulkEntries r
def uptoBulkEntry {H : Type} : Lit × DataW H → Nat
  | (.string bytes, d) => bytes.length + uptoBulk d + 1
  | (_, d) => uptoBulk d + 1
 end
def uptoSmall : (H : Type) → List (DataW H) → Bool := fun _ ds => decide (uptoBulkAll ds ≤ 1048576)
def OpenSpec.upto (s : _root_.Go.ChangeSpec) : _root_.Go.OpenSpec := { _root_.Go.OpenSpec.ofChange s with cond := some uptoSmall }

/-- 'noonmarklaw20.MarkRises', WHERE WHAT IT READS IS OF BULK AT MOST 1048576: true; the input reads as it did. -/
def markRisesUptoRow : OpenClaim := { program := "ytomokmhkgpfkmaa", sum := "b1c5086510f571586db1c9c2dfd14d95ad9037beb3b5874b9b80c54ccbd2ccdd", func := "noonmark/noonmarklaw20.MarkRises", spec := "markRises", inPlace := ["maps.clone"], unfollowed := true, recurses := true, apart := false, narrowed := true }
def MarkRisesUptoSaid : Prop := markRisesUptoRow.holds Try.pinned (OpenSpec.upto markRisesSpec)

/-- 'noonmarklaw20.MarkKeeps', WHERE WHAT IT READS IS OF BULK AT MOST 1048576: true; the input reads as it did. -/
def markKeepsUptoRow : OpenClaim := { program := "ytomokmhkgpfkmaa", sum := "b1c5086510f571586db1c9c2dfd14d95ad9037beb3b5874b9b80c54ccbd2ccdd", func := "noonmark/noonmarklaw20.MarkKeeps", spec := "markKeeps", inPlace := ["maps.clone"], unfollowed := true, recurses := true, apart := false, narrowed := true }
def MarkKeepsUptoSaid : Prop := markKeepsUptoRow.holds Try.pinned (OpenSpec.upto markKeepsSpec)

/-- 'noonmarklaw20.MarkTwice', WHERE WHAT IT READS IS OF BULK AT MOST 1048576: true; the input reads as it did. -/
def markTwiceUptoRow : OpenClaim := { program := "ytomokmhkgpfkmaa", sum := "b1c5086510f571586db1c9c2dfd14d95ad9037beb3b5874b9b80c54ccbd2ccdd", func := "noonmark/noonmarklaw20.MarkTwice", spec := "markTwice", inPlace := ["maps.clone"], unfollowed := true, recurses := true, apart := false, narrowed := true }
def MarkTwiceUptoSaid : Prop := markTwiceUptoRow.holds Try.pinned (OpenSpec.upto markTwiceSpec)

end Rows
end Go.Proofs.Ytomokmhkgpfkmaa
