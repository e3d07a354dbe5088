/-
  The registry's functions, walked (2).
-/
import Derived.Test.YtgkfpgocbciilaaR1
set_option linter.unusedVariables false
set_option linter.unusedSimpArgs false
namespace Go.Proofs.Ytgkfpgocbciilaa
open Go Go.Nm Go.Proofs

section
variable {rb mb sb : Nat} {most : Int} {rows : List En} {F : List Assn} {H : Heap} {K : Value → Heap → Prop}

theorem of_spec {e : En} (h : SatL H F) (k : ∀ H', SatL H' F → K (aggE e) H') : CallF Try.prog 11 #[aggE e] H K := by
  refine of.call ?_
  unfold of.code
  repeat (first
    | refine h.al fun _ _ h => ?_
    | refine nn_some ?_
    | refine ⟨fun _ => trivial, ?_⟩
    | refine ⟨_, h.rd 0 rfl _, ?_⟩
    | refine ⟨_, h.rd 1 rfl _, ?_⟩
    | refine h.st 0 rfl rfl fun _ h => ?_
    | refine h.st 1 rfl rfl fun _ h => ?_
    | refine ⟨_, _, _, h.rds 0 rfl rfl, ?_⟩
    | refine ⟨_, _, _, h.rds 1 rfl rfl, ?_⟩
    | refine ⟨_, fun _ => h.rd 0 rfl _, ?_⟩
    | refine ⟨_, fun _ => h.rd 1 rfl _, ?_⟩
    | refine ⟨_, _, _, fun _ => h.rds 0 rfl rfl, ?_⟩
    | refine ⟨_, _, _, fun _ => h.rds 1 rfl rfl, ?_⟩)
  exact k _ h.tl.tl

theorem Of_spec (ok : RowsOk rows) {agent : Int} (h : SatL H (rollC rb mb most :: mapE mb rows :: F))
    (k : ∀ H', SatL H' (rollC rb mb most :: mapE mb rows :: F) → K (.tuple #[aggE (rowE rows agent), .bool (decide (0 < (rowE rows agent).epoch))]) H') :
    CallF Try.prog 15 #[.pointer (some ⟨rb, 0, none⟩), I64 agent] H K := by
  refine roll_Of.call ?_
  unfold roll_Of.code
  repeat (first
    | refine h.al fun _ _ h => ?_
    | refine nn_some ?_
    | refine ⟨fun _ => trivial, ?_⟩
    | refine ⟨_, h.rd 0 rfl _, ?_⟩
    | refine ⟨_, h.rd 1 rfl _, ?_⟩
    | refine h.st 0 rfl rfl fun _ h => ?_
    | refine h.st 1 rfl rfl fun _ h => ?_
    | refine ⟨_, fun _ => h.rd 0 rfl _, ?_⟩
    | refine ⟨_, fun _ => h.rd 1 rfl _, ?_⟩)
  have hl := h.mp_get mt56 ko2 2 rfl (x := agent)
  rw [look_get ok, look_is ok] at hl
  refine ⟨_, _, _, _, hl, ?_⟩
  repeat (first
    | refine h.al fun _ _ h => ?_
    | refine nn_some ?_
    | refine ⟨fun _ => trivial, ?_⟩
    | refine ⟨_, h.rd 0 rfl _, ?_⟩
    | refine ⟨_, h.rd 1 rfl _, ?_⟩
    | refine h.st 0 rfl rfl fun _ h => ?_
    | refine h.st 1 rfl rfl fun _ h => ?_
    | refine ⟨_, _, _, h.rds 0 rfl rfl, ?_⟩
    | refine ⟨_, _, _, h.rds 1 rfl rfl, ?_⟩
    | refine ⟨_, fun _ => h.rd 0 rfl _, ?_⟩
    | refine ⟨_, fun _ => h.rd 1 rfl _, ?_⟩
    | refine ⟨_, _, _, fun _ => h.rds 0 rfl rfl, ?_⟩
    | refine ⟨_, _, _, fun _ => h.rds 1 rfl rfl, ?_⟩)
  exact k _ h.tl.tl

theorem Is_spec (ok : RowsOk rows) {agent epoch : Int} (h : SatL H (rollC rb mb most :: mapE mb rows :: F))
    (k : ∀ H', SatL H' (rollC rb mb most :: mapE mb rows :: F) → K (.bool (decide (0 < (rowE rows agent).epoch) && decide ((rowE rows agent).epoch = epoch))) H') :
    CallF Try.prog 17 #[.pointer (some ⟨rb, 0, none⟩), I64 agent, I64 epoch] H K := by
  refine roll_Is.call ?_
  unfold roll_Is.code
  repeat (first
    | refine h.al fun _ _ h => ?_
    | refine nn_some ?_
    | refine ⟨fun _ => trivial, ?_⟩
    | refine ⟨_, h.rd 0 rfl _, ?_⟩
    | refine ⟨_, h.rd 1 rfl _, ?_⟩
    | refine h.st 0 rfl rfl fun _ h => ?_
    | refine h.st 1 rfl rfl fun _ h => ?_
    | refine ⟨_, fun _ => h.rd 0 rfl _, ?_⟩
    | refine ⟨_, fun _ => h.rd 1 rfl _, ?_⟩)
  have hl := h.mp_get mt56 ko2 1 rfl (x := agent)
  rw [look_get ok, look_is ok] at hl
  refine ⟨_, _, _, _, hl, ?_⟩
  repeat (first
    | refine h.al fun _ _ h => ?_
    | refine nn_some ?_
    | refine ⟨fun _ => trivial, ?_⟩
    | refine ⟨_, h.rd 0 rfl _, ?_⟩
    | refine ⟨_, h.rd 1 rfl _, ?_⟩
    | refine h.st 0 rfl rfl fun _ h => ?_
    | refine h.st 1 rfl rfl fun _ h => ?_
    | refine ⟨_, fun _ => h.rd 0 rfl _, ?_⟩
    | refine ⟨_, fun _ => h.rd 1 rfl _, ?_⟩)
  exact k _ h.tl

theorem ROf_spec (ok : RowsOk rows) {agent : Int} (h : SatL H (refC sb most rows :: F))
    (k : ∀ H', SatL H' (refC sb most rows :: F) → K (aggE (rowE rows agent)) H') :
    CallF Try.prog 16 #[.pointer (some ⟨sb, 0, none⟩), I64 agent] H K := by
  refine R15_Roll_Of.call ?_
  unfold R15_Roll_Of.code
  repeat (first
    | refine h.al fun _ _ h => ?_
    | refine nn_some ?_
    | refine ⟨fun _ => trivial, ?_⟩
    | refine ⟨_, h.rd 0 rfl _, ?_⟩
    | refine ⟨_, h.rd 1 rfl _, ?_⟩
    | refine h.st 0 rfl rfl fun _ h => ?_
    | refine h.st 1 rfl rfl fun _ h => ?_
    | refine ⟨_, fun _ => h.rd 0 rfl _, ?_⟩
    | refine ⟨_, fun _ => h.rd 1 rfl _, ?_⟩)
  refine ⟨fun hc => ?_, fun hc => ?_⟩
  · simp only [Bool.or_eq_true, decide_eq_true_eq] at hc
    repeat (first
      | refine h.al fun _ _ h => ?_
      | refine nn_some ?_
      | refine ⟨fun _ => trivial, ?_⟩
      | refine ⟨_, h.rd 0 rfl _, ?_⟩
      | refine h.st 0 rfl rfl fun _ h => ?_
      | refine ⟨_, _, _, h.rds 0 rfl rfl, ?_⟩
      | refine ⟨_, fun _ => h.rd 0 rfl _, ?_⟩
      | refine ⟨_, _, _, fun _ => h.rds 0 rfl rfl, ?_⟩)
    have e : rowE rows agent = En.z := by
      unfold rowE
      split
      · rfl
      · rw [List.getElem?_eq_none (by rw [ok.len]; omega)]; rfl
    rw [e] at k
    exact k _ h.tl
  · simp only [Bool.or_eq_false_iff, decide_eq_false_iff_not] at hc
    have hl : agent.toNat < rows.length := by rw [ok.len]; omega
    refine ⟨⟨by omega, by omega⟩, _, _, _, h.row_rds 1 rfl encE_len hl rfl, ?_⟩
    repeat (first
      | refine h.al fun _ _ h => ?_
      | refine nn_some ?_
      | refine ⟨fun _ => trivial, ?_⟩
      | refine ⟨_, h.rd 0 rfl _, ?_⟩
      | refine h.st 0 rfl rfl fun _ h => ?_
      | refine ⟨_, _, _, h.rds 0 rfl rfl, ?_⟩
      | refine ⟨_, fun _ => h.rd 0 rfl _, ?_⟩
      | refine ⟨_, _, _, fun _ => h.rds 0 rfl rfl, ?_⟩)
    rw [← row_get (by omega) hl] at k
    exact k _ h.tl

theorem Grant_spec (ok : RowsOk rows) {agent boot now : Int} (h : SatL H (rollC rb mb most :: mapE mb rows :: F))
    (k : ∀ H', SatL H' (rollC rb mb most :: mapE mb (grant most rows agent boot now).1 :: F) →
      K (.tuple #[aggE (grant most rows agent boot now).2.1, .bool (grant most rows agent boot now).2.2.1, I64 (grant most rows agent boot now).2.2.2]) H') :
    CallF Try.prog 9 #[.pointer (some ⟨rb, 0, none⟩), I64 agent, I64 boot, I64 now] H K := by
  refine roll_Grant.call ?_
  unfold roll_Grant.code
  repeat (first
    | refine h.al fun _ _ h => ?_
    | refine nn_some ?_
    | refine ⟨fun _ => trivial, ?_⟩
    | refine ⟨_, h.rd 0 rfl _, ?_⟩
    | refine ⟨_, h.rd 1 rfl _, ?_⟩
    | refine h.st 0 rfl rfl fun _ h => ?_
    | refine h.st 1 rfl rfl fun _ h => ?_
    | refine ⟨_, fun _ => h.rd 0 rfl _, ?_⟩
    | refine ⟨_, fun _ => h.rd 1 rfl _, ?_⟩)
  refine ⟨_, within_spec, fun hc => ?_, fun hc => ?_⟩
  · have hb : bad agent boot now := by simpa using hc
    have e : grant most rows agent boot now = (rows, En.z, false, 11) := if_pos hb
    rw [e] at k
    repeat (first
      | refine h.al fun _ _ h => ?_
      | refine nn_some ?_
      | refine ⟨fun _ => trivial, ?_⟩
      | refine ⟨_, h.rd 0 rfl _, ?_⟩
      | refine h.st 0 rfl rfl fun _ h => ?_
      | refine ⟨_, _, _, h.rds 0 rfl rfl, ?_⟩
      | refine ⟨_, fun _ => h.rd 0 rfl _, ?_⟩
      | refine ⟨_, _, _, fun _ => h.rds 0 rfl rfl, ?_⟩)
    exact k _ h.tl
  · have hb : ¬ bad agent boot now := by simpa using hc
    have h0 : 0 ≤ agent := by simp only [bad, not_or, Int.not_lt] at hb; omega
    repeat (first
      | refine h.al fun _ _ h => ?_
      | refine nn_some ?_
      | refine ⟨fun _ => trivial, ?_⟩
      | refine ⟨_, h.rd 0 rfl _, ?_⟩
      | refine ⟨_, h.rd 1 rfl _, ?_⟩
      | refine h.st 0 rfl rfl fun _ h => ?_
      | refine h.st 1 rfl rfl fun _ h => ?_
      | refine ⟨_, fun _ => h.rd 0 rfl _, ?_⟩
      | refine ⟨_, fun _ => h.rd 1 rfl _, ?_⟩)
    have hl := h.mp_get mt56 ko2 2 rfl (x := agent)
    rw [look_get ok, look_is ok] at hl
    refine ⟨_, _, _, _, hl, ?_⟩
    repeat (first
      | refine h.al fun _ _ h => ?_
      | refine nn_some ?_
      | refine ⟨fun _ => trivial, ?_⟩
      | refine ⟨_, h.rd 0 rfl _, ?_⟩
      | refine ⟨_, h.rd 1 rfl _, ?_⟩
      | refine h.st 0 rfl rfl fun _ h => ?_
      | refine h.st 1 rfl rfl fun _ h => ?_
      | refine ⟨_, fun _ => h.rd 0 rfl _, ?_⟩
      | refine ⟨_, fun _ => h.rd 1 rfl _, ?_⟩)
    have hx := ok.at agent
    have hle := tab_le ok
    refine ⟨fun hc1 => ?_, fun hc1 => ?_⟩
    · simp only [Bool.and_eq_true, decide_eq_true_eq] at hc1
      have e : grant most rows agent boot now = (rows, rowE rows agent, false, 0) := by unfold grant; rw [if_neg hb]; exact if_pos hc1
      rw [e] at k
      repeat (first
        | refine h.al fun _ _ h => ?_
        | refine nn_some ?_
        | refine ⟨fun _ => trivial, ?_⟩
        | refine ⟨_, h.rd 0 rfl _, ?_⟩
        | refine ⟨_, h.rd 1 rfl _, ?_⟩
        | refine h.st 0 rfl rfl fun _ h => ?_
        | refine h.st 1 rfl rfl fun _ h => ?_
        | refine ⟨_, _, _, h.rds 0 rfl rfl, ?_⟩
        | refine ⟨_, _, _, h.rds 1 rfl rfl, ?_⟩
        | refine ⟨_, fun _ => h.rd 0 rfl _, ?_⟩
        | refine ⟨_, fun _ => h.rd 1 rfl _, ?_⟩
        | refine ⟨_, _, _, fun _ => h.rds 0 rfl rfl, ?_⟩
        | refine ⟨_, _, _, fun _ => h.rds 1 rfl rfl, ?_⟩)
      exact k _ h.tl.tl
    have n1 : ¬ (0 < (rowE rows agent).epoch ∧ (rowE rows agent).boot = boot) := fun hh => by simp [hh.1, hh.2] at hc1
    repeat (first
      | refine h.al fun _ _ h => ?_
      | refine nn_some ?_
      | refine ⟨fun _ => trivial, ?_⟩
      | refine ⟨_, h.rd 0 rfl _, ?_⟩
      | refine ⟨_, h.rd 1 rfl _, ?_⟩
      | refine h.st 0 rfl rfl fun _ h => ?_
      | refine h.st 1 rfl rfl fun _ h => ?_
      | refine ⟨_, fun _ => h.rd 0 rfl _, ?_⟩
      | refine ⟨_, fun _ => h.rd 1 rfl _, ?_⟩)
    refine ⟨fun hc2 => ?_, fun hc2 => ?_⟩
    · simp only [Bool.and_eq_true, decide_eq_true_eq] at hc2
      have e : grant most rows agent boot now = (rows, En.z, false, 22) := by unfold grant; rw [if_neg hb]; simp only; rw [if_neg n1, if_pos hc2]
      rw [e] at k
      repeat (first
        | refine h.al fun _ _ h => ?_
        | refine nn_some ?_
        | refine ⟨fun _ => trivial, ?_⟩
        | refine ⟨_, h.rd 0 rfl _, ?_⟩
        | refine ⟨_, h.rd 1 rfl _, ?_⟩
        | refine h.st 0 rfl rfl fun _ h => ?_
        | refine h.st 1 rfl rfl fun _ h => ?_
        | refine ⟨_, _, _, h.rds 0 rfl rfl, ?_⟩
        | refine ⟨_, _, _, h.rds 1 rfl rfl, ?_⟩
        | refine ⟨_, fun _ => h.rd 0 rfl _, ?_⟩
        | refine ⟨_, fun _ => h.rd 1 rfl _, ?_⟩
        | refine ⟨_, _, _, fun _ => h.rds 0 rfl rfl, ?_⟩
        | refine ⟨_, _, _, fun _ => h.rds 1 rfl rfl, ?_⟩)
      exact k _ h.tl.tl
    have n2 : ¬ (0 < (rowE rows agent).epoch ∧ boot < (rowE rows agent).boot) := fun hh => by simp [hh.1, hh.2] at hc2
    repeat (first
      | refine h.al fun _ _ h => ?_
      | refine nn_some ?_
      | refine ⟨fun _ => trivial, ?_⟩
      | refine ⟨_, h.rd 0 rfl _, ?_⟩
      | refine ⟨_, h.rd 1 rfl _, ?_⟩
      | refine h.st 0 rfl rfl fun _ h => ?_
      | refine h.st 1 rfl rfl fun _ h => ?_
      | refine ⟨_, fun _ => h.rd 0 rfl _, ?_⟩
      | refine ⟨_, fun _ => h.rd 1 rfl _, ?_⟩)
    refine ⟨fun hc3 => ?_, fun hc3 => ?_⟩
    · simp only [Bool.and_eq_true, decide_eq_true_eq] at hc3
      have e : grant most rows agent boot now = (rows, En.z, false, 17) := by unfold grant; rw [if_neg hb]; simp only; rw [if_neg n1, if_neg n2, if_pos (by omega)]
      rw [e] at k
      repeat (first
        | refine h.al fun _ _ h => ?_
        | refine nn_some ?_
        | refine ⟨fun _ => trivial, ?_⟩
        | refine ⟨_, h.rd 0 rfl _, ?_⟩
        | refine ⟨_, h.rd 1 rfl _, ?_⟩
        | refine h.st 0 rfl rfl fun _ h => ?_
        | refine h.st 1 rfl rfl fun _ h => ?_
        | refine ⟨_, _, _, h.rds 0 rfl rfl, ?_⟩
        | refine ⟨_, _, _, h.rds 1 rfl rfl, ?_⟩
        | refine ⟨_, fun _ => h.rd 0 rfl _, ?_⟩
        | refine ⟨_, fun _ => h.rd 1 rfl _, ?_⟩
        | refine ⟨_, _, _, fun _ => h.rds 0 rfl rfl, ?_⟩
        | refine ⟨_, _, _, fun _ => h.rds 1 rfl rfl, ?_⟩)
      exact k _ h.tl.tl
    have n3 : ¬ ((rowE rows agent).epoch = 1099511627776) := fun hh => by simp [hh] at hc3
    repeat (first
      | refine h.al fun _ _ h => ?_
      | refine nn_some ?_
      | refine ⟨fun _ => trivial, ?_⟩
      | refine ⟨_, h.rd 0 rfl _, ?_⟩
      | refine ⟨_, h.rd 1 rfl _, ?_⟩
      | refine ⟨_, h.rd 2 rfl _, ?_⟩
      | refine h.st 0 rfl rfl fun _ h => ?_
      | refine h.st 1 rfl rfl fun _ h => ?_
      | refine h.st 2 rfl rfl fun _ h => ?_
      | refine ⟨_, fun _ => h.rd 0 rfl _, ?_⟩
      | refine ⟨_, fun _ => h.rd 1 rfl _, ?_⟩
      | refine ⟨_, fun _ => h.rd 2 rfl _, ?_⟩)
    refine ⟨_, fun _ => h.mp_len mt56 3 rfl, ?_⟩
    repeat (first
      | refine h.al fun _ _ h => ?_
      | refine nn_some ?_
      | refine ⟨fun _ => trivial, ?_⟩
      | refine ⟨_, h.rd 0 rfl _, ?_⟩
      | refine ⟨_, h.rd 1 rfl _, ?_⟩
      | refine ⟨_, h.rd 2 rfl _, ?_⟩
      | refine h.st 0 rfl rfl fun _ h => ?_
      | refine h.st 1 rfl rfl fun _ h => ?_
      | refine h.st 2 rfl rfl fun _ h => ?_
      | refine ⟨_, fun _ => h.rd 0 rfl _, ?_⟩
      | refine ⟨_, fun _ => h.rd 1 rfl _, ?_⟩
      | refine ⟨_, fun _ => h.rd 2 rfl _, ?_⟩)
    refine ⟨fun hc4 => ?_, fun hc4 => ?_⟩
    · simp only [Bool.and_eq_true, Bool.not_eq_true', decide_eq_false_iff_not, decide_eq_true_eq] at hc4
      have e : grant most rows agent boot now = (rows, En.z, false, 20) := by unfold grant; rw [if_neg hb]; simp only; rw [if_neg n1, if_neg n2, if_neg n3, if_pos ⟨by omega, hc4.2⟩]
      rw [e] at k
      repeat (first
        | refine h.al fun _ _ h => ?_
        | refine nn_some ?_
        | refine ⟨fun _ => trivial, ?_⟩
        | refine ⟨_, h.rd 0 rfl _, ?_⟩
        | refine ⟨_, h.rd 1 rfl _, ?_⟩
        | refine h.st 0 rfl rfl fun _ h => ?_
        | refine h.st 1 rfl rfl fun _ h => ?_
        | refine ⟨_, _, _, h.rds 0 rfl rfl, ?_⟩
        | refine ⟨_, _, _, h.rds 1 rfl rfl, ?_⟩
        | refine ⟨_, fun _ => h.rd 0 rfl _, ?_⟩
        | refine ⟨_, fun _ => h.rd 1 rfl _, ?_⟩
        | refine ⟨_, _, _, fun _ => h.rds 0 rfl rfl, ?_⟩
        | refine ⟨_, _, _, fun _ => h.rds 1 rfl rfl, ?_⟩)
      exact k _ h.tl.tl
    have n4 : ¬ ((rowE rows agent).epoch = 0 ∧ full most rows) := fun hh => by
      have h2 : most ≤ ((tab 0 rows).length : Int) := hh.2
      simp [hh.1, h2] at hc4
    have e : grant most rows agent boot now = (rows.set agent.toNat ⟨(rowE rows agent).epoch + 1, boot, now⟩, ⟨(rowE rows agent).epoch + 1, boot, now⟩, true, 0) := by
      unfold grant; rw [if_neg hb]; simp only; rw [if_neg n1, if_neg n2, if_neg n3, if_neg n4]
    rw [e] at k
    have ew : IntKind.i64.wrap ((rowE rows agent).epoch + 1) = (rowE rows agent).epoch + 1 := w64 (by omega) (by omega)
    have hlt : agent.toNat < rows.length := by simp only [bad, not_or, Int.not_lt] at hb; rw [ok.len]; omega
    have hs := tab_set (i := 0) (x := ⟨(rowE rows agent).epoch + 1, boot, now⟩) (by simp only; omega) hlt
    rw [show ((0 + agent.toNat : Nat) : Int) = agent by omega] at hs
    simp only [mapE] at k
    rw [mapA_perm hs, ← ew] at k
    repeat (first
      | refine h.al fun _ _ h => ?_
      | refine nn_some ?_
      | refine ⟨fun _ => trivial, ?_⟩
      | refine ⟨_, h.rd 0 rfl _, ?_⟩
      | refine ⟨_, h.rd 1 rfl _, ?_⟩
      | refine ⟨_, h.rd 2 rfl _, ?_⟩
      | refine h.st 0 rfl rfl fun _ h => ?_
      | refine h.st 1 rfl rfl fun _ h => ?_
      | refine h.st 2 rfl rfl fun _ h => ?_
      | refine ⟨_, _, _, h.rds 0 rfl rfl, ?_⟩
      | refine ⟨_, _, _, h.rds 1 rfl rfl, ?_⟩
      | refine ⟨_, _, _, h.rds 2 rfl rfl, ?_⟩
      | refine ⟨_, fun _ => h.rd 0 rfl _, ?_⟩
      | refine ⟨_, fun _ => h.rd 1 rfl _, ?_⟩
      | refine ⟨_, fun _ => h.rd 2 rfl _, ?_⟩
      | refine ⟨_, _, _, fun _ => h.rds 0 rfl rfl, ?_⟩
      | refine ⟨_, _, _, fun _ => h.rds 1 rfl rfl, ?_⟩
      | refine ⟨_, _, _, fun _ => h.rds 2 rfl rfl, ?_⟩)
    refine h.mp_update (α := En) (v := ⟨_, _, _⟩) mt56 ko2 3 rfl fun _ h => ?_
    repeat (first
      | refine h.al fun _ _ h => ?_
      | refine nn_some ?_
      | refine ⟨fun _ => trivial, ?_⟩
      | refine ⟨_, h.rd 0 rfl _, ?_⟩
      | refine ⟨_, h.rd 1 rfl _, ?_⟩
      | refine ⟨_, h.rd 2 rfl _, ?_⟩
      | refine h.st 0 rfl rfl fun _ h => ?_
      | refine h.st 1 rfl rfl fun _ h => ?_
      | refine h.st 2 rfl rfl fun _ h => ?_
      | refine ⟨_, _, _, h.rds 0 rfl rfl, ?_⟩
      | refine ⟨_, _, _, h.rds 1 rfl rfl, ?_⟩
      | refine ⟨_, _, _, h.rds 2 rfl rfl, ?_⟩
      | refine ⟨_, fun _ => h.rd 0 rfl _, ?_⟩
      | refine ⟨_, fun _ => h.rd 1 rfl _, ?_⟩
      | refine ⟨_, fun _ => h.rd 2 rfl _, ?_⟩
      | refine ⟨_, _, _, fun _ => h.rds 0 rfl rfl, ?_⟩
      | refine ⟨_, _, _, fun _ => h.rds 1 rfl rfl, ?_⟩
      | refine ⟨_, _, _, fun _ => h.rds 2 rfl rfl, ?_⟩)
    exact k _ h.tl.tl

theorem Set_spec (ok : RowsOk rows) {agent : Int} {x : En} (h : SatL H (rollC rb mb most :: mapE mb rows :: F))
    (k : ∀ H', SatL H' (rollC rb mb most :: mapE mb (setR most rows agent x).1 :: F) → K (I64 (setR most rows agent x).2) H') :
    CallF Try.prog 12 #[.pointer (some ⟨rb, 0, none⟩), I64 agent, aggE x] H K := by
  refine roll_Set.call ?_
  unfold roll_Set.code
  repeat (first
    | refine h.al fun _ _ h => ?_
    | refine nn_some ?_
    | refine ⟨fun _ => trivial, ?_⟩
    | refine ⟨_, h.rd 0 rfl _, ?_⟩
    | refine h.st 0 rfl rfl fun _ h => ?_
    | refine ⟨_, fun _ => h.rd 0 rfl _, ?_⟩)
  refine ⟨_, within_spec, ?_⟩
  repeat (first
    | refine h.al fun _ _ h => ?_
    | refine nn_some ?_
    | refine ⟨fun _ => trivial, ?_⟩
    | refine ⟨_, h.rd 0 rfl _, ?_⟩
    | refine h.st 0 rfl rfl fun _ h => ?_
    | refine ⟨_, fun _ => h.rd 0 rfl _, ?_⟩)
  refine ⟨fun hc => ?_, fun hc => ?_⟩
  · have e : setR most rows agent x = (rows, 11) := if_pos (by
      simp only [Bool.or_eq_true, Bool.not_eq_true', Bool.not_eq_false', decide_eq_true_eq, Bool.not_not] at hc
      omega)
    rw [e] at k
    exact k _ h.tl
  · have n1 : ¬ (bad agent x.boot x.time ∨ x.epoch < 1 ∨ 1099511627776 < x.epoch) := by
      simp only [Bool.or_eq_false_iff, Bool.not_not, decide_eq_false_iff_not] at hc
      omega
    repeat (first
      | refine h.al fun _ _ h => ?_
      | refine nn_some ?_
      | refine ⟨fun _ => trivial, ?_⟩
      | refine ⟨_, h.rd 0 rfl _, ?_⟩
      | refine ⟨_, h.rd 1 rfl _, ?_⟩
      | refine h.st 0 rfl rfl fun _ h => ?_
      | refine h.st 1 rfl rfl fun _ h => ?_
      | refine ⟨_, fun _ => h.rd 0 rfl _, ?_⟩
      | refine ⟨_, fun _ => h.rd 1 rfl _, ?_⟩)
    have hl := h.mp_get mt56 ko2 2 rfl (x := agent)
    rw [look_get ok, look_is ok] at hl
    refine ⟨_, _, _, _, hl, ?_⟩
    repeat (first
      | refine h.al fun _ _ h => ?_
      | refine nn_some ?_
      | refine ⟨fun _ => trivial, ?_⟩
      | refine ⟨_, h.rd 0 rfl _, ?_⟩
      | refine ⟨_, h.rd 1 rfl _, ?_⟩
      | refine h.st 0 rfl rfl fun _ h => ?_
      | refine h.st 1 rfl rfl fun _ h => ?_
      | refine ⟨_, fun _ => h.rd 0 rfl _, ?_⟩
      | refine ⟨_, fun _ => h.rd 1 rfl _, ?_⟩)
    refine ⟨fun hc1 => ?_, fun hc1 => ?_⟩
    · have e : setR most rows agent x = (rows, 18) := by unfold setR; rw [if_neg n1, if_pos (by simpa using hc1)]
      rw [e] at k
      exact k _ h.tl.tl
    have n2 : ¬ 0 < (rowE rows agent).epoch := by simpa using hc1
    repeat (first
      | refine h.al fun _ _ h => ?_
      | refine nn_some ?_
      | refine ⟨fun _ => trivial, ?_⟩
      | refine ⟨_, h.rd 0 rfl _, ?_⟩
      | refine ⟨_, h.rd 1 rfl _, ?_⟩
      | refine ⟨_, h.rd 2 rfl _, ?_⟩
      | refine h.st 0 rfl rfl fun _ h => ?_
      | refine h.st 1 rfl rfl fun _ h => ?_
      | refine h.st 2 rfl rfl fun _ h => ?_
      | refine ⟨_, fun _ => h.rd 0 rfl _, ?_⟩
      | refine ⟨_, fun _ => h.rd 1 rfl _, ?_⟩
      | refine ⟨_, fun _ => h.rd 2 rfl _, ?_⟩)
    refine ⟨_, h.mp_len mt56 3 rfl, ?_⟩
    repeat (first
      | refine h.al fun _ _ h => ?_
      | refine nn_some ?_
      | refine ⟨fun _ => trivial, ?_⟩
      | refine ⟨_, h.rd 0 rfl _, ?_⟩
      | refine ⟨_, h.rd 1 rfl _, ?_⟩
      | refine ⟨_, h.rd 2 rfl _, ?_⟩
      | refine h.st 0 rfl rfl fun _ h => ?_
      | refine h.st 1 rfl rfl fun _ h => ?_
      | refine h.st 2 rfl rfl fun _ h => ?_
      | refine ⟨_, fun _ => h.rd 0 rfl _, ?_⟩
      | refine ⟨_, fun _ => h.rd 1 rfl _, ?_⟩
      | refine ⟨_, fun _ => h.rd 2 rfl _, ?_⟩)
    refine ⟨fun hc2 => ?_, fun hc2 => ?_⟩
    · have e : setR most rows agent x = (rows, 20) := by unfold setR; rw [if_neg n1, if_neg n2, if_pos (by simpa using hc2)]
      rw [e] at k
      exact k _ h.tl.tl
    have n3 : ¬ full most rows := by simpa using hc2
    have e : setR most rows agent x = (rows.set agent.toNat x, 0) := by unfold setR; rw [if_neg n1, if_neg n2, if_neg n3]
    rw [e] at k
    repeat (first
      | refine h.al fun _ _ h => ?_
      | refine nn_some ?_
      | refine ⟨fun _ => trivial, ?_⟩
      | refine ⟨_, h.rd 0 rfl _, ?_⟩
      | refine ⟨_, h.rd 1 rfl _, ?_⟩
      | refine ⟨_, h.rd 2 rfl _, ?_⟩
      | refine h.st 0 rfl rfl fun _ h => ?_
      | refine h.st 1 rfl rfl fun _ h => ?_
      | refine h.st 2 rfl rfl fun _ h => ?_
      | refine ⟨_, _, _, h.rds 0 rfl rfl, ?_⟩
      | refine ⟨_, _, _, h.rds 1 rfl rfl, ?_⟩
      | refine ⟨_, _, _, h.rds 2 rfl rfl, ?_⟩
      | refine ⟨_, fun _ => h.rd 0 rfl _, ?_⟩
      | refine ⟨_, fun _ => h.rd 1 rfl _, ?_⟩
      | refine ⟨_, fun _ => h.rd 2 rfl _, ?_⟩
      | refine ⟨_, _, _, fun _ => h.rds 0 rfl rfl, ?_⟩
      | refine ⟨_, _, _, fun _ => h.rds 1 rfl rfl, ?_⟩
      | refine ⟨_, _, _, fun _ => h.rds 2 rfl rfl, ?_⟩)
    refine h.mp_update (α := En) (v := x) mt56 ko2 3 rfl fun _ h => ?_
    have hlt : agent.toNat < rows.length := by simp only [bad, not_or, Int.not_lt] at n1; rw [ok.len]; omega
    have hs := tab_set (i := 0) (x := x) (by omega) hlt
    rw [show ((0 + agent.toNat : Nat) : Int) = agent by simp only [bad, not_or, Int.not_lt] at n1; omega] at hs
    refine k _ ?_
    show SatL _ (rollC rb mb most :: mapA I64 aggE mb (tab 0 (rows.set agent.toNat x)) :: F)
    rw [mapA_perm hs]
    exact h.tl.tl
end
end Go.Proofs.Ytgkfpgocbciilaa
