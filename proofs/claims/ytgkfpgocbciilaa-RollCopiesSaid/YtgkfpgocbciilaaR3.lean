/-
  The registry's functions, walked (3).
-/
import Derived.Test.YtgkfpgocbciilaaR2
set_option linter.unusedVariables false
set_option linter.unusedSimpArgs false
namespace Go.Proofs.Ytgkfpgocbciilaa
open Go Go.Nm Go.Proofs

section
variable {rb mb sb : Nat} {most : Int} {rows : List En} {F : List Assn} {H : Heap} {K : Value → Heap → Prop}

theorem RSet_spec (ok : RowsOk rows) {agent : Int} {x : En} (h : SatL H (refC sb most rows :: F))
    (k : ∀ H', SatL H' (refC sb most (setR most rows agent x).1 :: F) → K (I64 (setR most rows agent x).2) H') :
    CallF Try.prog 13 #[.pointer (some ⟨sb, 0, none⟩), I64 agent, aggE x] H K := by
  refine R15_Roll_Set.call ?_
  unfold R15_Roll_Set.code
  repeat (first
    | refine h.al fun _ _ h => ?_
    | refine nn_some ?_
    | refine ⟨fun _ => trivial, ?_⟩
    | refine ⟨_, h.rd 0 rfl _, ?_⟩
    | refine h.st 0 rfl rfl fun _ h => ?_
    | refine ⟨_, fun _ => h.rd 0 rfl _, ?_⟩)
  refine ⟨_, wrong_spec, ?_⟩
  repeat (first
    | refine h.al fun _ _ h => ?_
    | refine nn_some ?_
    | refine ⟨fun _ => trivial, ?_⟩
    | refine ⟨_, h.rd 0 rfl _, ?_⟩
    | refine h.st 0 rfl rfl fun _ h => ?_
    | refine ⟨_, fun _ => h.rd 0 rfl _, ?_⟩)
  refine ⟨fun hc => ?_, fun hc => ?_⟩
  · have e : setR most rows agent x = (rows, 11) := if_pos (by
      simp only [Bool.or_eq_true, decide_eq_true_eq] at hc
      omega)
    rw [e] at k
    exact k _ h.tl
  · have n1 : ¬ (bad agent x.boot x.time ∨ x.epoch < 1 ∨ 1099511627776 < x.epoch) := by
      simp only [Bool.or_eq_false_iff, decide_eq_false_iff_not] at hc
      omega
    have hr : 0 ≤ agent ∧ agent < 64 := by simp only [bad, not_or, Int.not_lt] at n1; omega
    have hl : agent.toNat < rows.length := by rw [ok.len]; omega
    refine ⟨hr, _, h.row_rd 1 rfl encE_len hl 0 rfl rfl, ?_⟩
    rw [row_get hr.1 hl]
    refine ⟨fun hc1 => ?_, fun hc1 => ?_⟩
    · have e : setR most rows agent x = (rows, 18) := by unfold setR; rw [if_neg n1, if_pos (by simpa using hc1)]
      rw [e] at k
      exact k _ h.tl
    have n2 : ¬ 0 < (rowE rows agent).epoch := by simpa using hc1
    refine ⟨_, full_spec ok h.tl, fun hc2 => ?_, fun hc2 => ?_⟩
    · have e : setR most rows agent x = (rows, 20) := by unfold setR; rw [if_neg n1, if_neg n2, if_pos (by simpa using hc2)]
      rw [e] at k
      exact k _ h.tl
    have n3 : ¬ full most rows := by simpa using hc2
    have e : setR most rows agent x = (rows.set agent.toNat x, 0) := by unfold setR; rw [if_neg n1, if_neg n2, if_neg n3]
    rw [e] at k
    repeat (first
      | refine h.al fun _ _ h => ?_
      | refine nn_some ?_
      | refine ⟨fun _ => trivial, ?_⟩
      | refine ⟨_, h.rd 0 rfl _, ?_⟩
      | refine h.st 0 rfl rfl fun _ h => ?_
      | refine ⟨_, _, _, h.rds 0 rfl rfl, ?_⟩
      | refine ⟨_, fun _ => h.rd 0 rfl _, ?_⟩
      | refine ⟨_, _, _, fun _ => h.rds 0 rfl rfl, ?_⟩)
    refine ⟨hr, h.row_st 1 rfl encE_len hl rfl x fun _ h => ?_⟩
    exact k _ h.tl

theorem RGrant_spec (ok : RowsOk rows) {agent boot now : Int} (h : SatL H (refC sb most rows :: F))
    (k : ∀ H', SatL H' (refC sb most (grant most rows agent boot now).1 :: F) →
      K (.tuple #[aggE (grant most rows agent boot now).2.1, .bool (grant most rows agent boot now).2.2.1, I64 (grant most rows agent boot now).2.2.2]) H') :
    CallF Try.prog 10 #[.pointer (some ⟨sb, 0, none⟩), I64 agent, I64 boot, I64 now] H K := by
  refine R15_Roll_Grant.call ?_
  unfold R15_Roll_Grant.code
  repeat (first
    | refine h.al fun _ _ h => ?_
    | refine nn_some ?_
    | refine ⟨fun _ => trivial, ?_⟩
    | refine ⟨_, h.rd 0 rfl _, ?_⟩
    | refine ⟨_, h.rd 1 rfl _, ?_⟩
    | refine h.st 0 rfl rfl fun _ h => ?_
    | refine h.st 1 rfl rfl fun _ h => ?_
    | refine ⟨_, fun _ => h.rd 0 rfl _, ?_⟩
    | refine ⟨_, fun _ => h.rd 1 rfl _, ?_⟩)
  refine ⟨_, wrong_spec, fun hc => ?_, fun hc => ?_⟩
  · have hb : bad agent boot now := by simpa using hc
    have e : grant most rows agent boot now = (rows, En.z, false, 11) := if_pos hb
    rw [e] at k
    repeat (first
      | refine h.al fun _ _ h => ?_
      | refine nn_some ?_
      | refine ⟨fun _ => trivial, ?_⟩
      | refine ⟨_, h.rd 0 rfl _, ?_⟩
      | refine h.st 0 rfl rfl fun _ h => ?_
      | refine ⟨_, _, _, h.rds 0 rfl rfl, ?_⟩
      | refine ⟨_, fun _ => h.rd 0 rfl _, ?_⟩
      | refine ⟨_, _, _, fun _ => h.rds 0 rfl rfl, ?_⟩)
    exact k _ h.tl
  · have hb : ¬ bad agent boot now := by simpa using hc
    have hr : 0 ≤ agent ∧ agent < 64 := by simp only [bad, not_or, Int.not_lt] at hb; omega
    have hl : agent.toNat < rows.length := by rw [ok.len]; omega
    refine ⟨hr, _, _, _, h.row_rds 1 rfl encE_len hl rfl, ?_⟩
    rw [row_get hr.1 hl]
    have hx := ok.at agent
    repeat (first
      | refine h.al fun _ _ h => ?_
      | refine nn_some ?_
      | refine ⟨fun _ => trivial, ?_⟩
      | refine ⟨_, h.rd 0 rfl _, ?_⟩
      | refine ⟨_, h.rd 1 rfl _, ?_⟩
      | refine h.st 0 rfl rfl fun _ h => ?_
      | refine h.st 1 rfl rfl fun _ h => ?_
      | refine ⟨_, fun _ => h.rd 0 rfl _, ?_⟩
      | refine ⟨_, fun _ => h.rd 1 rfl _, ?_⟩)
    refine ⟨fun hc1 => ?_, fun hc1 => ?_⟩
    · simp only [Bool.and_eq_true, decide_eq_true_eq] at hc1
      have e : grant most rows agent boot now = (rows, rowE rows agent, false, 0) := by unfold grant; rw [if_neg hb]; exact if_pos hc1
      rw [e] at k
      repeat (first
        | refine h.al fun _ _ h => ?_
        | refine nn_some ?_
        | refine ⟨fun _ => trivial, ?_⟩
        | refine ⟨_, h.rd 0 rfl _, ?_⟩
        | refine ⟨_, h.rd 1 rfl _, ?_⟩
        | refine h.st 0 rfl rfl fun _ h => ?_
        | refine h.st 1 rfl rfl fun _ h => ?_
        | refine ⟨_, _, _, h.rds 0 rfl rfl, ?_⟩
        | refine ⟨_, _, _, h.rds 1 rfl rfl, ?_⟩
        | refine ⟨_, fun _ => h.rd 0 rfl _, ?_⟩
        | refine ⟨_, fun _ => h.rd 1 rfl _, ?_⟩
        | refine ⟨_, _, _, fun _ => h.rds 0 rfl rfl, ?_⟩
        | refine ⟨_, _, _, fun _ => h.rds 1 rfl rfl, ?_⟩)
      exact k _ h.tl.tl
    have n1 : ¬ (0 < (rowE rows agent).epoch ∧ (rowE rows agent).boot = boot) := fun hh => by simp [hh.1, hh.2] at hc1
    repeat (first
      | refine h.al fun _ _ h => ?_
      | refine nn_some ?_
      | refine ⟨fun _ => trivial, ?_⟩
      | refine ⟨_, h.rd 0 rfl _, ?_⟩
      | refine ⟨_, h.rd 1 rfl _, ?_⟩
      | refine h.st 0 rfl rfl fun _ h => ?_
      | refine h.st 1 rfl rfl fun _ h => ?_
      | refine ⟨_, fun _ => h.rd 0 rfl _, ?_⟩
      | refine ⟨_, fun _ => h.rd 1 rfl _, ?_⟩)
    refine ⟨fun hc2 => ?_, fun hc2 => ?_⟩
    · simp only [Bool.and_eq_true, decide_eq_true_eq] at hc2
      have e : grant most rows agent boot now = (rows, En.z, false, 22) := by unfold grant; rw [if_neg hb]; simp only; rw [if_neg n1, if_pos hc2]
      rw [e] at k
      repeat (first
        | refine h.al fun _ _ h => ?_
        | refine nn_some ?_
        | refine ⟨fun _ => trivial, ?_⟩
        | refine ⟨_, h.rd 0 rfl _, ?_⟩
        | refine ⟨_, h.rd 1 rfl _, ?_⟩
        | refine h.st 0 rfl rfl fun _ h => ?_
        | refine h.st 1 rfl rfl fun _ h => ?_
        | refine ⟨_, _, _, h.rds 0 rfl rfl, ?_⟩
        | refine ⟨_, _, _, h.rds 1 rfl rfl, ?_⟩
        | refine ⟨_, fun _ => h.rd 0 rfl _, ?_⟩
        | refine ⟨_, fun _ => h.rd 1 rfl _, ?_⟩
        | refine ⟨_, _, _, fun _ => h.rds 0 rfl rfl, ?_⟩
        | refine ⟨_, _, _, fun _ => h.rds 1 rfl rfl, ?_⟩)
      exact k _ h.tl.tl
    have n2 : ¬ (0 < (rowE rows agent).epoch ∧ boot < (rowE rows agent).boot) := fun hh => by simp [hh.1, hh.2] at hc2
    repeat (first
      | refine h.al fun _ _ h => ?_
      | refine nn_some ?_
      | refine ⟨fun _ => trivial, ?_⟩
      | refine ⟨_, h.rd 0 rfl _, ?_⟩
      | refine ⟨_, h.rd 1 rfl _, ?_⟩
      | refine h.st 0 rfl rfl fun _ h => ?_
      | refine h.st 1 rfl rfl fun _ h => ?_
      | refine ⟨_, fun _ => h.rd 0 rfl _, ?_⟩
      | refine ⟨_, fun _ => h.rd 1 rfl _, ?_⟩)
    refine ⟨fun hc3 => ?_, fun hc3 => ?_⟩
    · simp only [decide_eq_true_eq] at hc3
      have e : grant most rows agent boot now = (rows, En.z, false, 17) := by unfold grant; rw [if_neg hb]; simp only; rw [if_neg n1, if_neg n2, if_pos hc3]
      rw [e] at k
      repeat (first
        | refine h.al fun _ _ h => ?_
        | refine nn_some ?_
        | refine ⟨fun _ => trivial, ?_⟩
        | refine ⟨_, h.rd 0 rfl _, ?_⟩
        | refine ⟨_, h.rd 1 rfl _, ?_⟩
        | refine h.st 0 rfl rfl fun _ h => ?_
        | refine h.st 1 rfl rfl fun _ h => ?_
        | refine ⟨_, _, _, h.rds 0 rfl rfl, ?_⟩
        | refine ⟨_, _, _, h.rds 1 rfl rfl, ?_⟩
        | refine ⟨_, fun _ => h.rd 0 rfl _, ?_⟩
        | refine ⟨_, fun _ => h.rd 1 rfl _, ?_⟩
        | refine ⟨_, _, _, fun _ => h.rds 0 rfl rfl, ?_⟩
        | refine ⟨_, _, _, fun _ => h.rds 1 rfl rfl, ?_⟩)
      exact k _ h.tl.tl
    have n3 : ¬ ((rowE rows agent).epoch = 1099511627776) := by simpa using hc3
    repeat (first
      | refine h.al fun _ _ h => ?_
      | refine nn_some ?_
      | refine ⟨fun _ => trivial, ?_⟩
      | refine ⟨_, h.rd 0 rfl _, ?_⟩
      | refine ⟨_, h.rd 1 rfl _, ?_⟩
      | refine h.st 0 rfl rfl fun _ h => ?_
      | refine h.st 1 rfl rfl fun _ h => ?_
      | refine ⟨_, fun _ => h.rd 0 rfl _, ?_⟩
      | refine ⟨_, fun _ => h.rd 1 rfl _, ?_⟩)
    refine ⟨_, fun _ => full_spec ok h.tl.tl, fun hc4 => ?_, fun hc4 => ?_⟩
    · simp only [Bool.and_eq_true, decide_eq_true_eq] at hc4
      have e : grant most rows agent boot now = (rows, En.z, false, 20) := by unfold grant; rw [if_neg hb]; simp only; rw [if_neg n1, if_neg n2, if_neg n3, if_pos hc4]
      rw [e] at k
      repeat (first
        | refine h.al fun _ _ h => ?_
        | refine nn_some ?_
        | refine ⟨fun _ => trivial, ?_⟩
        | refine ⟨_, h.rd 0 rfl _, ?_⟩
        | refine ⟨_, h.rd 1 rfl _, ?_⟩
        | refine h.st 0 rfl rfl fun _ h => ?_
        | refine h.st 1 rfl rfl fun _ h => ?_
        | refine ⟨_, _, _, h.rds 0 rfl rfl, ?_⟩
        | refine ⟨_, _, _, h.rds 1 rfl rfl, ?_⟩
        | refine ⟨_, fun _ => h.rd 0 rfl _, ?_⟩
        | refine ⟨_, fun _ => h.rd 1 rfl _, ?_⟩
        | refine ⟨_, _, _, fun _ => h.rds 0 rfl rfl, ?_⟩
        | refine ⟨_, _, _, fun _ => h.rds 1 rfl rfl, ?_⟩)
      exact k _ h.tl.tl
    have n4 : ¬ ((rowE rows agent).epoch = 0 ∧ full most rows) := fun hh => by
      have h2 : most ≤ ((tab 0 rows).length : Int) := hh.2
      simp [hh.1, h2] at hc4
    have e : grant most rows agent boot now = (rows.set agent.toNat ⟨(rowE rows agent).epoch + 1, boot, now⟩, ⟨(rowE rows agent).epoch + 1, boot, now⟩, true, 0) := by
      unfold grant; rw [if_neg hb]; simp only; rw [if_neg n1, if_neg n2, if_neg n3, if_neg n4]
    rw [e] at k
    repeat (first
      | refine h.al fun _ _ h => ?_
      | refine nn_some ?_
      | refine ⟨fun _ => trivial, ?_⟩
      | refine ⟨_, h.rd 0 rfl _, ?_⟩
      | refine ⟨_, h.rd 1 rfl _, ?_⟩
      | refine h.st 0 rfl rfl fun _ h => ?_
      | refine h.st 1 rfl rfl fun _ h => ?_
      | refine ⟨_, fun _ => h.rd 0 rfl _, ?_⟩
      | refine ⟨_, fun _ => h.rd 1 rfl _, ?_⟩)
    rw [w64 (x := (rowE rows agent).epoch + 1) (by omega) (by omega)]
    refine ⟨hr, h.row_st 2 rfl encE_len hl rfl ⟨(rowE rows agent).epoch + 1, boot, now⟩ fun _ h => ?_⟩
    refine ⟨hr, _, _, _, h.row_rds 2 rfl encE_len (by rw [List.length_set]; exact hl) rfl, ?_⟩
    rw [List.getElem_set_self]
    repeat (first
      | refine h.al fun _ _ h => ?_
      | refine nn_some ?_
      | refine ⟨fun _ => trivial, ?_⟩
      | refine ⟨_, h.rd 0 rfl _, ?_⟩
      | refine ⟨_, h.rd 1 rfl _, ?_⟩
      | refine h.st 0 rfl rfl fun _ h => ?_
      | refine h.st 1 rfl rfl fun _ h => ?_
      | refine ⟨_, _, _, h.rds 0 rfl rfl, ?_⟩
      | refine ⟨_, _, _, h.rds 1 rfl rfl, ?_⟩
      | refine ⟨_, fun _ => h.rd 0 rfl _, ?_⟩
      | refine ⟨_, fun _ => h.rd 1 rfl _, ?_⟩
      | refine ⟨_, _, _, fun _ => h.rds 0 rfl rfl, ?_⟩
      | refine ⟨_, _, _, fun _ => h.rds 1 rfl rfl, ?_⟩)
    exact k _ h.tl.tl

theorem Clone_spec (h : SatL H (rollC rb mb most :: mapE mb rows :: F))
    (k : ∀ rb' mb' H', SatL H' (rollC rb' mb' most :: mapE mb' rows :: rollC rb mb most :: mapE mb rows :: F) → K (.pointer (some ⟨rb', 0, none⟩)) H') :
    CallF Try.prog 19 #[.pointer (some ⟨rb, 0, none⟩)] H K := by
  refine roll_Clone.call ?_
  unfold roll_Clone.code
  repeat (first
    | refine h.al fun _ _ h => ?_
    | refine nn_some ?_
    | refine ⟨fun _ => trivial, ?_⟩
    | refine ⟨_, h.rd 0 rfl _, ?_⟩
    | refine h.st 0 rfl rfl fun _ h => ?_
    | refine ⟨_, fun _ => h.rd 0 rfl _, ?_⟩)
  refine Clone_call h 1 rfl fun H' h _ => ⟨_, rfl, ?_⟩
  refine ⟨h.rd 1 rfl _, ?_⟩
  refine h.al fun _ _ h => ?_
  exact k _ _ _ h

theorem All_spec (h : SatL H F) (k : ∀ c0 H', SatL H' (cellsA c0 [.pointer (some ⟨rb, 0, none⟩)] 24 :: F) → K (.func (.func 23) #[] #[.pointer (some ⟨c0, 0, none⟩)]) H') :
    CallF Try.prog 18 #[.pointer (some ⟨rb, 0, none⟩)] H K := by
  refine roll_All.call ?_
  unfold roll_All.code
  refine h.al fun _ _ h => ?_
  exact k _ _ h

theorem All1_spec {l c0 : Nat} (ok : RowsOk rows) (A : Nat → Assn) (Ax : Assn)
    (h : SatL H (A 0 :: cellsA c0 [.pointer (some ⟨rb, 0, none⟩)] 24 :: rollC rb mb most :: mapE mb rows :: F))
    (hy : ∀ j (hj : j < (tab 0 rows).length) (G : List Assn) (H1 : Heap) (K1 : Value → Heap → Prop), SatL H1 (A j :: G) → (∀ H2, SatL H2 (A (j + 1) :: G) → K1 (.bool true) H2) → (∀ H2, SatL H2 (Ax :: G) → K1 (.bool false) H2) →
      YieldF Try.prog l [I64 (tab 0 rows)[j].1, aggE (tab 0 rows)[j].2] H1 K1)
    (k : ∀ H', SatL H' (A (tab 0 rows).length :: cellsA c0 [.pointer (some ⟨rb, 0, none⟩)] 24 :: rollC rb mb most :: mapE mb rows :: F) → K (.tuple #[]) H')
    (kx : ∀ H', SatL H' (Ax :: cellsA c0 [.pointer (some ⟨rb, 0, none⟩)] 24 :: rollC rb mb most :: mapE mb rows :: F) → K (.tuple #[]) H') :
    CallF Try.prog 23 #[.func (.yield l) #[] #[], .pointer (some ⟨c0, 0, none⟩)] H K := by
  refine roll_All_1.call ?_
  unfold roll_All_1.code
  have hle := tab_le ok
  repeat (first
    | refine h.al fun _ _ h => ?_
    | refine nn_some ?_
    | refine ⟨fun _ => trivial, ?_⟩
    | refine ⟨_, h.rd 0 rfl _, ?_⟩
    | refine ⟨_, h.rd 1 rfl _, ?_⟩
    | refine ⟨_, h.rd 2 rfl _, ?_⟩
    | refine h.st 0 rfl rfl fun _ h => ?_
    | refine h.st 1 rfl rfl fun _ h => ?_
    | refine h.st 2 rfl rfl fun _ h => ?_
    | refine ⟨_, fun _ => h.rd 0 rfl _, ?_⟩
    | refine ⟨_, fun _ => h.rd 1 rfl _, ?_⟩
    | refine ⟨_, fun _ => h.rd 2 rfl _, ?_⟩)
  refine Clone_call h 3 rfl fun H1 h1 _ => ⟨_, rfl, ?_⟩
  refine Keys_call ⟨_, _, rfl, ?_⟩
  refine Sorted_call h1 0 rfl (fun x hx => ?_) (by omega) fun a c H2 h2 _ => ⟨_, _, _, rfl, ?_⟩
  · obtain ⟨p, hp, rfl⟩ := List.mem_map.1 hx
    have := tab_keys hp
    have := ok.len
    unfold wf64; omega
  rw [tab_sorted] at h2
  refine ⟨fun t H' => ∃ j : Nat, t = j ∧ j ≤ (tab 0 rows).length ∧ SatL H' (A j :: slA 2 1 a (tab 0 rows).length c ((keysOf (tab 0 rows)).map I64) :: mapA I64 aggE H.size (tab 0 rows) :: cellsA c0 [.pointer (some ⟨rb, 0, none⟩)] 24 :: rollC rb mb most :: mapE mb rows :: F),
    fun t _ => (tab 0 rows).length - t.toNat, ⟨0, rfl, Nat.zero_le _, h2.ordt [2, 0, 1] 3 (by decide) (by decide)⟩, ?_⟩
  rintro t H3 ⟨j, rfl, hj, h3⟩
  unfold roll_All_1.l1
  refine ⟨fun hc => ?_, fun hc => ?_⟩
  · have hlt : j < (tab 0 rows).length := by have := of_decide_eq_true hc; omega
    have hrd := (h3.sl_rd 1 rfl).at (j := j) (by simpa [keysOf] using hlt)
    have hkey : (keysOf (tab 0 rows))[j]'(by simpa [keysOf] using hlt) = (tab 0 rows)[j].1 := by simp [keysOf]
    rw [hkey] at hrd
    have hlk := h3.mp_get1 mt56 ko2 2 rfl (x := (tab 0 rows)[j].1)
    have hmem : ((tab 0 rows)[j].1, (tab 0 rows)[j].2) ∈ tab 0 rows := List.getElem_mem hlt
    rw [mlook_of_mem tab_nodup hmem] at hlk
    refine ⟨⟨by omega, by omega⟩, _, _, hrd.1, _, hrd.2, _, _, _, hlk, ?_⟩
    refine hy j hlt _ H3 _ h3 (fun H4 h4 => ⟨true, rfl, fun hf => (by cases hf), fun _ => ?_⟩) fun H4 h4 => ⟨false, rfl, fun _ => ?_, fun hf => (by cases hf)⟩
    · rw [w64 (by omega) (by omega)]
      exact ⟨⟨j + 1, rfl, hlt, h4⟩, by simp only; omega⟩
    · exact kx _ (h4.ordt [0] 3 (by decide) (by decide))
  · obtain rfl : j = (tab 0 rows).length := by have := of_decide_eq_false hc; omega
    exact k _ (h3.ordt [0] 3 (by decide) (by decide))
end
end Go.Proofs.Ytgkfpgocbciilaa
