/-
  Proved: for every input, BookCalls returns true and leaves its arguments as they were. Conditions: none beyond the row's own.
-/
import Derived.Test.YtomdcdfcdeaabaaGreatBD
import Derived.Test.YtomdcdfcdeaabaaGreatRows
set_option linter.unusedVariables false
set_option linter.unusedSimpArgs false
namespace Go.Proofs.YtomdcdfcdeaabaaGreat
open Go Go.Nm Go.Proofs Go.ChangeShapes Go.WideShapes Go.ChangeAt Go.RowKit

theorem own_ : ownKnob Tryz.prog.godebug = none := by kernel_rfl
theorem laidOut_ : laidOutB Tryz.prog = true := by kernel_rfl

set_option maxRecDepth 100000 in
theorem bookCalls_lifted (os : Os) (started : os.Started) (H : Type) (enc : TypeId × Value → H) :
    ReturnsInHanded {} Tryz.checked os 3 .any (Rows.bookCallsSpec.pre6 enc Tryz.prog Tryz.f3 Rows.bookCallsRow.domain false) (Rows.bookCallsSpec.post enc Tryz.prog Tryz.f3 false true false false) := by
  refine returnsInHanded_of_change (C := Tryz.checked) own_ started (by kernel_rfl) Tryz.func3
    (ChangeSpec.witness6 (enc := enc) (C := Tryz.checked) false ⟨#[], #[.int .i64 0, .slice none 0 0], []⟩ 8 (by kernel_rfl) (by kernel_rfl) (by kernel_rfl) (by kernel_rfl)) ?_
  intro W base args ds gs before hval0 hW hcnd _
  have hval : ∀ (j : Nat) t v, Tryz.f3.params[j]? = some t → args[j]? = some v → Value.okWide Tryz.prog W .any base t v := hval0
  have hW' := hW
  obtain ⟨p, q, hA0, hV, rfl, hfz, hnd⟩ := hW
  have hA00 : DataW.TrodAll enc Tryz.prog W 0 (fun _ => true) true Tryz.f3.params.toList args.toList ds p := hA0
  rw [Tryz.params3] at hA00 hval
  obtain ⟨v0, r0, d0, ds0, p0, e0, rfl, g0, hA1⟩ := args_cons hA00
  obtain ⟨v1, r1, d1, ds1, p1, rfl, rfl, g1, hA2⟩ := args_cons hA1
  obtain rfl := args_nil hA2
  obtain rfl : args = #[v0, v1] := by cases args; simp_all
  obtain ⟨n0, rfl⟩ := okWide_int Tryz.underlying3 (hval 0 3 v0 rfl rfl)
  obtain ⟨m0, em0, b0, c0⟩ := reads_int Tryz.underlying3 g0
  simp only [Value.cells, List.cons.injEq, Value.int.injEq, true_and, and_true] at em0
  subst em0
  obtain ⟨a1, l1, c1, rfl⟩ := okWide_slice Tryz.underlying22 (hval 1 22 v1 rfl rfl)
  obtain ⟨aa1, cc1, xs1, ec1, hl1, hr1, hq1⟩ := reads_bcalls g1
  simp only [Value.cells, List.cons.injEq, Value.slice.injEq, and_true] at ec1
  obtain ⟨rfl, rfl, rfl⟩ := ec1
  refine law_post laidOut_ hW' rfl (by kernel_rfl) Tryz.underlying4 ?_ (by kernel_rfl) ?_
  · obtain ⟨rfl, rfl⟩ := trodVars_none hV
    have hnil : ds1 = [] := by cases ds1 with | nil => rfl | cons _ _ => exact hA2.elim
    subst hnil
    rfl
  · exact BookCalls_true hl1 hr1 hq1

theorem bookCalls_holds : Rows.BookCallsSaid :=
  OpenClaim.holds_of_wide 3 Tryz.f3 rfl rfl rfl rfl rfl rfl rfl ⟨rfl, rfl, rfl, rfl, rfl⟩ rfl rfl rfl rfl rfl (by kernel_rfl) Tryz.func3 (by kernel_rfl)
    (of_decide_eq_true (by kernel_rfl)) (by unfold Func.isWrapper; first | (rw [if_pos (by decide +kernel)]; kernel_rfl) | (rw [if_neg (by decide +kernel)]; exact ⟨rfl, rfl⟩))
    (fun os started H enc _ => bookCalls_lifted os started H enc)
end Go.Proofs.YtomdcdfcdeaabaaGreat
