/-
  WireDoubles: counting.
-/
import Derived.Test.YtfkapbggncejcaaW11
set_option linter.unusedVariables false
set_option linter.unusedSimpArgs false
namespace Go.Proofs.Ytfkapbggncejcaa
open Go Go.Nm Go.Proofs

def belowA (m : PM) (a : Int) : Nat := (m.filter fun p => decide (p.2.agent < a)).length
theorem belowA_step (a : Int) : ∀ m : PM, belowA m (a + 1) = belowA m a + ((m.filter (pf true a)).length + (m.filter (pf false a)).length)
  | [] => rfl
  | p :: r => by
    have ih := belowA_step a r
    unfold belowA at *
    have e1 : pf true a p = (p.2.up && decide (p.2.agent = a)) := by unfold pf; cases p.2.up <;> rfl
    have e2 : pf false a p = (!p.2.up && decide (p.2.agent = a)) := by unfold pf; cases p.2.up <;> rfl
    simp only [List.filter_cons, e1, e2]
    by_cases h1 : p.2.agent < a
    · have h2 : p.2.agent < a + 1 := by omega
      have h3 : ¬ p.2.agent = a := by omega
      simp [h1, h2, h3]; omega
    · by_cases h3 : p.2.agent = a
      · have h2 : p.2.agent < a + 1 := by omega
        have h4 : a < a + 1 := by omega
        cases hu : p.2.up <;> simp [h3, hu, h4] <;> omega
      · have h2 : ¬ p.2.agent < a + 1 := by omega
        simp [h1, h2, h3]; omega
theorem belowA_zero {Q : Assn} {most next : Int} {m : PM} (ok : WOk Q most next m) : belowA m 0 = 0 := by
  unfold belowA
  rw [List.length_eq_zero_iff, List.filter_eq_nil_iff]
  intro p hp
  have := ok.ag p hp
  simp; omega
theorem belowA_all {Q : Assn} {most next : Int} {m : PM} (ok : WOk Q most next m) : belowA m 64 = m.length := by
  unfold belowA
  rw [List.filter_eq_self.2 fun p hp => by have := ok.ag p hp; simp; omega]
end Go.Proofs.Ytfkapbggncejcaa
