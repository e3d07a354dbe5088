/-
  What the rows list, tied to the program's text, fact by fact. Conditions: none.
-/
import Derived.Test.YtnjaappmhadfdaaGreatDoorRows
import Derived.LaidByTextLater
import Derived.SevenTiedAt
namespace Go.Proofs.YtnjaappmhadfdaaGreatDoor
open Go
abbrev wWqL:List (String × DataW Unit):=[("internal/strconv.uint64pow10", Rows.laid_internal_strconv_uint64pow10), ("math/bits.deBruijn32tab", Rows.laid_math_bits_deBruijn32tab), ("math/bits.deBruijn64tab", Rows.laid_math_bits_deBruijn64tab), ("strconv.ErrSyntax", Rows.laid_strconv_ErrSyntax), ("strconv.ErrRange", Rows.laid_strconv_ErrRange), ("unicode/utf8.acceptRanges", Rows.laid_unicode_utf8_acceptRanges), ("noonmark/tale.reasons", Rows.laid_noonmark_tale_reasons)]
theorem wWq1:Tryz.prog.worded (varsWordLater true)=true:=by kernel_rfl
theorem wWq2:Tryz.prog.worded (varsWordLater !true)=false:=by kernel_rfl
theorem wWq3:Tryz.prog.worded rootWordLater=true:=by kernel_rfl
theorem wWq4:wWqL.map (fun x=>Tryz.prog.kindOfLater x.1)=([.data, .data, .data, .sentinel, .sentinel, .data, .data]:List LaidKind).map some:=by kernel_rfl
theorem wWq5:(Tryz.prog.funcNamed "gosem.cut.vars").isSome=true:=by kernel_rfl
theorem wWq0:varsId Tryz.prog=553:=by kernel_rfl
theorem wWq6:varsNamedLaterB Tryz.prog 553 wWqL=true:=by kernel_rfl
theorem wWq7:∀ os tape,varsDone Tryz.prog 400 553 os tape=true:=fun _ _=>by kernel_rfl
theorem wWq8:∀ os tape,(DataW.laidRun Tryz.prog (varsWorld Tryz.prog 400 553 os tape).memory 8 (wWqL.map (·.1))).map (·.1)=some wWqL:=fun _ _=>by kernel_rfl
theorem wWq9:∀ os tape,(DataW.laidRun Tryz.prog (varsWorld Tryz.prog 400 553 os tape).memory 8 (wWqL.map (·.1))).map (fun x=>decide x.2.Nodup && laidRowsB Tryz.prog (varsWorld Tryz.prog 400 553 os tape).memory x.2)=some true:=fun _ _=>by kernel_rfl
theorem wWqTie:Tryz.prog.laidByTextLater wWqL [.data, .data, .data, .sentinel, .sentinel, .data, .data] true:=by
  have a:=wWq6;have b:=wWq7;have c:=wWq8;have d:=wWq9
  rw[<-wWq0]at a b c d
  exact Program.laidByTextLater_by_run 400 8 wWq1 wWq2 wWq3 wWq4 wWq5 a b c d
theorem pin_laid_unicode_utf8_first : Tryz.pinned.checked.prog.pinnedFits "unicode/utf8.first" = true := by kernel_rfl
theorem noOwnUnsafe : Tryz.pinned.checked.prog.headLifts.contains "ownunsafe" = false := by kernel_rfl
theorem fits1 : Tryz.pinned.checked.prog.listedFits [("internal/strconv.uint64pow10", Rows.laid_internal_strconv_uint64pow10), ("math/bits.deBruijn32tab", Rows.laid_math_bits_deBruijn32tab), ("math/bits.deBruijn64tab", Rows.laid_math_bits_deBruijn64tab), ("strconv.ErrSyntax", Rows.laid_strconv_ErrSyntax), ("strconv.ErrRange", Rows.laid_strconv_ErrRange), ("unicode/utf8.first", Rows.laid_unicode_utf8_first), ("unicode/utf8.acceptRanges", Rows.laid_unicode_utf8_acceptRanges), ("noonmark/tale.reasons", Rows.laid_noonmark_tale_reasons)] = true := by
  unfold Program.listedFits
  rw [noOwnUnsafe]
  kernel_rfl
theorem taleBack_row_tie : Rows.taleBackRow.laidByTextAt .later Tryz.pinned [.data, .data, .data, .sentinel, .sentinel, .pinned, .data, .data] true :=
  OpenClaim.laidByTextAt_pinned rfl rfl wWqTie rfl rfl rfl rfl (fun y hy _e => by
    simp only [Rows.taleBackRow, List.zip_cons_cons, List.zip_nil_right, List.mem_cons, List.mem_nil_iff, or_false] at hy
    rcases hy with rfl | rfl | rfl | rfl | rfl | rfl | rfl | rfl
    · cases _e
    · cases _e
    · cases _e
    · cases _e
    · cases _e
    · exact ⟨pin_laid_unicode_utf8_first, by kernel_rfl⟩
    · cases _e
    · cases _e) fits1
theorem taleNotes_row_tie : Rows.taleNotesRow.laidByTextAt .later Tryz.pinned [.data, .data, .data, .sentinel, .sentinel, .pinned, .data, .data] true :=
  OpenClaim.laidByTextAt_pinned rfl rfl wWqTie rfl rfl rfl rfl (fun y hy _e => by
    simp only [Rows.taleNotesRow, List.zip_cons_cons, List.zip_nil_right, List.mem_cons, List.mem_nil_iff, or_false] at hy
    rcases hy with rfl | rfl | rfl | rfl | rfl | rfl | rfl | rfl
    · cases _e
    · cases _e
    · cases _e
    · cases _e
    · cases _e
    · exact ⟨pin_laid_unicode_utf8_first, by kernel_rfl⟩
    · cases _e
    · cases _e) fits1
end Go.Proofs.YtnjaappmhadfdaaGreatDoor
