/-
  Lemmas for the Fleet: what else they rest on. Conditions: none.
-/
import Derived.Test.YtlmphkpeajnhjaaGreatDoorPF11
set_option linter.unusedVariables false
set_option linter.unusedSimpArgs false
set_option maxRecDepth 100000
set_option maxHeartbeats 16000000
open Go.IntKind (i64 u64 i8 u8 i32 u32 i16 u16)
namespace Go.Proofs.YtlmphkpeajnhjaaGreatDoor
open Go
open Go Go.Maps Go.RowKit
open Go Go.ChangeShapes Go.WideShapes Go.ChangeAt Go.RowKit
open Go.Shelf
open Go.Shelf
open Go.Shelf
open Go.Shelf
open  Go.RowKit Go.Maps Go.Sort Go.Shelf
open  Go.RowKit Go.Maps Go.Sort Go.Shelf
open  Go.Shelf Go.RowKit Go.Lib Go.Sort
open  Go.RowKit Go.Sort
open  Go.Sort
open  Go.Shelf Go.RowKit Go.Lib Go.Sort
end Go.Proofs.YtlmphkpeajnhjaaGreatDoor
