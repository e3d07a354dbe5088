/-
  The registry's functions, walked.
-/
import Derived.Test.YtgkfpgocbciilaaKS
import Derived.Test.YtgkfpgocbciilaaRP
set_option linter.unusedVariables false
set_option linter.unusedSimpArgs false
namespace Go.Proofs.Ytgkfpgocbciilaa
open Go Go.Nm Go.Proofs

abbrev I64 := Value.int .i64
theorem mt56 : MapT Try.prog 56 2 34 aggE En.z := mapT_of Try.underlying56 (by kernel_rfl)
theorem ko2 : KeyOK Try.prog 2 I64 := keyOK_int Try.underlying2

abbrev rollC (rb mb : Nat) (most : Int) : Assn := cellsA rb [I64 most, .map (some mb)] 58
abbrev mapE (mb : Nat) (rows : List En) : Assn := mapA I64 aggE mb (tab 0 rows)
abbrev refC (sb : Nat) (most : Int) (rows : List En) : Assn := cellsA sb ([I64 most] ++ flat encE rows) 61

section
variable {rb mb sb : Nat} {most : Int} {rows : List En} {F : List Assn} {H : Heap} {K : Value → Heap → Prop}

theorem within_spec {a b n : Int} : CallQ Try.prog 20 #[I64 a, I64 b, I64 n] H (.bool (!decide (bad a b n))) := by
  refine roll_within.call ⟨congrArg Value.bool ?_, rfl⟩
  rw [Bool.eq_iff_iff]
  simp only [Bool.and_eq_true, decide_eq_true_eq, Bool.not_eq_true', decide_eq_false_iff_not]
  omega
theorem wrong_spec {a b n : Int} : CallQ Try.prog 21 #[I64 a, I64 b, I64 n] H (.bool (decide (bad a b n))) := by
  refine R15_wrong.call ⟨congrArg Value.bool ?_, rfl⟩
  rw [Bool.eq_iff_iff]
  simp only [Bool.or_eq_true, decide_eq_true_eq]
  omega

theorem New_spec (h : SatL H F) (k1 : most < 1 ∨ 64 < most → K (.tuple #[.pointer none, I64 11]) H)
    (k2 : ¬ (most < 1 ∨ 64 < most) → ∀ rb mb H', SatL H' (rollC rb mb most :: mapE mb (List.replicate 64 En.z) :: F) → K (.tuple #[.pointer (some ⟨rb, 0, none⟩), I64 0]) H') :
    CallF Try.prog 7 #[I64 most] H K := by
  refine roll_New.call ⟨fun hc => k1 (by simpa using hc), fun hc => ?_⟩
  refine h.alm I64 aggE fun mb _ h => ?_
  refine h.al fun rb _ h => ?_
  exact k2 (by simp at hc; omega) _ _ _ h

set_option maxRecDepth 20000 in
theorem RNew_spec (h : SatL H F) (k1 : most < 1 ∨ 64 < most → K (.tuple #[.pointer none, I64 11]) H)
    (k2 : ¬ (most < 1 ∨ 64 < most) → ∀ sb H', SatL H' (refC sb most (List.replicate 64 En.z) :: F) → K (.tuple #[.pointer (some ⟨sb, 0, none⟩), I64 0]) H') :
    CallF Try.prog 8 #[I64 most] H K := by
  refine R15_New.call ⟨fun hc => k1 (by simpa using hc), fun hc => ?_⟩
  refine h.al fun rb _ h => ?_
  exact k2 (by simp at hc; omega) _ _ (SatL.mono h fun _ hp => hp)

theorem encE_len (x : En) : (encE x).length = 3 := rfl
theorem row_get {agent : Int} (h0 : 0 ≤ agent) (hlt : agent.toNat < rows.length) : rows[agent.toNat] = rowE rows agent := by
  unfold rowE; rw [if_neg (by omega), List.getElem?_eq_getElem hlt]; rfl

theorem full_spec (ok : RowsOk rows) (h : SatL H (refC sb most rows :: F)) : CallQ Try.prog 22 #[.pointer (some ⟨sb, 0, none⟩)] H (.bool (decide (full most rows))) := by
  unfold CallQ
  refine R15_Roll_full.call ?_
  unfold R15_Roll_full.code
  refine ⟨fun n i H' => H' = H ∧ ∃ (k : Nat), i = k ∧ k ≤ 64 ∧ n = ((tab 0 (rows.take k)).length : Int), fun n i _ => 64 - i.toNat, ⟨rfl, 0, rfl, by omega, by simp [tab]⟩, ?_⟩
  rintro n i H1 ⟨rfl, k, rfl, hk, rfl⟩
  unfold R15_Roll_full.l2
  refine ⟨fun hc => ?_, fun hc => ?_⟩
  · have hlt : k < 64 := by have := of_decide_eq_true hc; omega
    have hl : k < rows.length := by rw [ok.len]; exact hlt
    have ht : (tab 0 (rows.take (k + 1))).length = (tab 0 (rows.take k)).length + if 0 < rows[k].epoch then 1 else 0 := by
      rw [tab_length, tab_length, List.take_succ_eq_append_getElem hl, List.filter_append, List.length_append]
      congr 1
      by_cases hp : 0 < rows[k].epoch <;> simp [hp]
    have hb : (tab 0 (rows.take k)).length ≤ 64 := by
      rw [tab_length]
      exact Nat.le_trans (List.length_filter_le _ _) (by simp; omega)
    refine ⟨⟨by omega, by omega⟩, _, h.row_rd 0 rfl encE_len hl 0 rfl (by simp only [Int.toNat_natCast, List.length_singleton]; omega), ?_⟩
    intro Jn hJ
    refine ⟨fun hp => hJ _ _ ?_, fun hp => hJ _ _ ?_⟩
    · unfold R15_Roll_full.r1
      rw [w64 (by omega) (by omega), w64 (by omega) (by omega)]
      refine ⟨⟨rfl, k + 1, rfl, by omega, ?_⟩, by simp only; omega⟩
      rw [ht, if_pos (by simpa using hp)]; omega
    · unfold R15_Roll_full.r1
      rw [w64 (x := (k : Int) + 1) (by omega) (by omega)]
      refine ⟨⟨rfl, k + 1, rfl, by omega, ?_⟩, by simp only; omega⟩
      rw [ht, if_neg (by simpa using hp)]; omega
  · have : k = 64 := by
      have : ¬ ((k : Int) < 64) := by simpa using hc
      omega
    subst this
    refine ⟨_, h.rd 0 rfl _, ?_, rfl⟩
    rw [List.take_of_length_le (by rw [ok.len]; omega)]
end
end Go.Proofs.Ytgkfpgocbciilaa
