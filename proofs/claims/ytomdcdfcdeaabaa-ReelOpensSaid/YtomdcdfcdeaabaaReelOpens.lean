/-
  Proved: for every input, ReelOpens returns true and leaves its arguments as they were. Conditions: none beyond the row's own.
-/
import Derived.Test.YtomdcdfcdeaabaaRT
import Derived.Test.YtomdcdfcdeaabaaRows
set_option linter.unusedVariables false
set_option linter.unusedSimpArgs false
namespace Go.Proofs.Ytomdcdfcdeaabaa
open Go Go.Nm Go.Proofs Go.ChangeShapes Go.WideShapes Go.ChangeAt Go.RowKit

theorem own_ : ownKnob Try.prog.godebug = none := by kernel_rfl
theorem laidOut_ : laidOutB Try.prog = true := by kernel_rfl

set_option maxRecDepth 100000 in
theorem reelOpens_lifted (os : Os) (started : os.Started) (H : Type) (enc : TypeId × Value → H) :
    ReturnsInHanded {} Try.checked os 9 .any (Rows.reelOpensSpec.pre6 enc Try.prog Try.f9 Rows.reelOpensRow.domain false) (Rows.reelOpensSpec.post enc Try.prog Try.f9 false true false false) := by
  refine returnsInHanded_of_change (C := Try.checked) own_ started (by kernel_rfl) Try.func9
    (ChangeSpec.witness6 (enc := enc) (C := Try.checked) false ⟨#[], #[.slice none 0 0, .int .i64 0], []⟩ 8 (by kernel_rfl) (by kernel_rfl) (by kernel_rfl) (by kernel_rfl)) ?_
  intro W base args ds gs before hval0 hW hcnd _
  have hval : ∀ (j : Nat) t v, Try.f9.params[j]? = some t → args[j]? = some v → Value.okWide Try.prog W .any base t v := hval0
  have hW' := hW
  obtain ⟨p, q, hA0, hV, rfl, hfz, hnd⟩ := hW
  have hA00 : DataW.TrodAll enc Try.prog W 0 (fun _ => true) true Try.f9.params.toList args.toList ds p := hA0
  rw [Try.params9] at hA00 hval
  obtain ⟨v0, r0, d0, ds0, p0, e0, rfl, g0, hA1⟩ := args_cons hA00
  obtain ⟨v1, r1, d1, ds1, p1, rfl, rfl, g1, hA2⟩ := args_cons hA1
  obtain rfl := args_nil hA2
  obtain rfl : args = #[v0, v1] := by cases args; simp_all
  obtain ⟨a0, l0, c0, rfl⟩ := okWide_slice Try.underlying22 (hval 0 22 v0 rfl rfl)
  obtain ⟨aa0, cc0, xs0, ec0, hl0, hr0, hq0⟩ := reads_dcalls g0
  simp only [Value.cells, List.cons.injEq, Value.slice.injEq, and_true] at ec0
  obtain ⟨rfl, rfl, rfl⟩ := ec0
  obtain ⟨n1, rfl⟩ := okWide_int Try.underlying3 (hval 1 3 v1 rfl rfl)
  obtain ⟨m1, em1, b1, c1⟩ := reads_int Try.underlying3 g1
  simp only [Value.cells, List.cons.injEq, Value.int.injEq, true_and, and_true] at em1
  subst em1
  refine law_post laidOut_ hW' rfl (by kernel_rfl) Try.underlying4 ?_ (by kernel_rfl) ?_
  · obtain ⟨rfl, rfl⟩ := trodVars_none hV
    have hnil : ds1 = [] := by cases ds1 with | nil => rfl | cons _ _ => exact hA2.elim
    subst hnil
    rfl
  · exact ReelOpens_true hl0 hr0 hq0

theorem reelOpens_holds : Rows.ReelOpensSaid :=
  OpenClaim.holds_of_wide 9 Try.f9 rfl rfl rfl rfl rfl rfl rfl ⟨rfl, rfl, rfl, rfl, rfl⟩ rfl rfl rfl rfl rfl (by kernel_rfl) Try.func9 (by kernel_rfl)
    (of_decide_eq_true (by kernel_rfl)) (by unfold Func.isWrapper; first | (rw [if_pos (by decide +kernel)]; kernel_rfl) | (rw [if_neg (by decide +kernel)]; exact ⟨rfl, rfl⟩))
    (fun os started H enc _ => reelOpens_lifted os started H enc)
end Go.Proofs.Ytomdcdfcdeaabaa
