/-
  Agree, walked.
-/
import Derived.Test.YtgkfpgocbciilaaR3
set_option linter.unusedVariables false
set_option linter.unusedSimpArgs false
namespace Go.Proofs.Ytgkfpgocbciilaa
open Go Go.Nm Go.Proofs

theorem neq37 (x y : En) : EqRun Try.prog .neq 37 (aggE x) (aggE y) (!(x.epoch == y.epoch && (x.boot == y.boot && (x.time == y.time && true)))) :=
  (struct_eql (xs := encE x) (ys := encE y) (by kernel_rfl)).2
theorem eql34 (x y : En) : EqRun Try.prog .eql 34 (aggE x) (aggE y) (x.epoch == y.epoch && (x.boot == y.boot && (x.time == y.time && true))) :=
  (struct_eql (xs := encE x) (ys := encE y) (by kernel_rfl)).1
theorem neq34 (x y : En) : EqRun Try.prog .neq 34 (aggE x) (aggE y) (!(x.epoch == y.epoch && (x.boot == y.boot && (x.time == y.time && true)))) :=
  (struct_eql (xs := encE x) (ys := encE y) (by kernel_rfl)).2

section
variable {rb mb sb : Nat} {most most2 : Int} {rows : List En} {F : List Assn} {H : Heap} {K : Value → Heap → Prop}

/-- How far Agree has come, before entry j. -/
def agA (l b b1 b2 sb : Nat) (R : Loop) (most : Int) (rows : List En) (j : Nat) : Assn :=
  exS fun f : Nat => star [pur (f ≤ 64 ∧ tab f (rows.drop f) = (tab 0 rows).drop j), pt l (.loop R), cellsA b2 [I64 f] 2, cellsA b1 [.bool false] 4, cellsA b [.pointer (some ⟨sb, 0, none⟩)] 28, refC sb most rows]

theorem Agree_round {b b1 b2 j : Nat} {H4 H1 : Heap} {R : Loop} {G : List Assn} {K1 : Value → Heap → Prop} (ok : RowsOk rows) (hj : j < (tab 0 rows).length)
    (h : SatL H1 (agA (H4.size + 1) b b1 b2 sb R most rows j :: G)) (kt : ∀ H2, SatL H2 (agA (H4.size + 1) b b1 b2 sb R most rows (j + 1) :: G) → K1 (.bool true) H2) :
    Agree.y2 b b1 b2 H4 R [I64 (tab 0 rows)[j].1, aggE (tab 0 rows)[j].2] H1 K1 := by
  obtain ⟨f, h⟩ := satL_ex.1 h
  obtain ⟨⟨hf, ht⟩, h⟩ := SatL.consP h.open
  rw [List.drop_eq_getElem_cons hj] at ht
  obtain ⟨k, hk0, hk1, hk2, hk3, hk4, hk5, hk6⟩ := tab_first (Nat.le_refl _) (show tab f (rows.drop f) = ((tab 0 rows)[j].1, (tab 0 rows)[j].2) :: _ from ht)
  rw [hk0]
  generalize (tab 0 rows)[j].2 = e at *
  unfold Agree.y2
  have hlen := ok.len
  refine ⟨_, _, _, _, rfl, h.getO 0 rfl, ?_⟩
  refine h.al fun b3 _ h => ?_
  refine h.st 0 rfl rfl fun _ h => ?_
  refine ⟨h.getO 1 rfl, h.stl 1 rfl fun H9 h => ?_⟩
  refine ⟨_, h.rd 2 rfl _, fun hc => ?_, fun _ => ?_⟩
  · simp only [Bool.or_eq_true, decide_eq_true_eq] at hc; omega
  refine ⟨fun H' => ∃ g : Nat, f ≤ g ∧ g ≤ k ∧ SatL H' (cellsA b3 (encE e) 34 :: pt (H4.size + 1) (.loop { R with state := .busy }) :: cellsA b2 [I64 g] 2 :: cellsA b1 [.bool false] 4 :: cellsA b [.pointer (some ⟨sb, 0, none⟩)] 28 :: refC sb most rows :: G),
    fun H' => k - cellN H' b2 0, ⟨f, Nat.le_refl _, hk1, h⟩, ?_⟩
  rintro H11 ⟨g, hg1, hg2, h⟩
  unfold Agree.l1
  refine ⟨_, h.rd 2 rfl _, fun hc => ?_, fun hc => ?_⟩
  · have hlt : g < k := by have := of_decide_eq_true hc; omega
    refine ⟨_, h.rd 4 rfl _, _, h.rd 2 rfl _, nn_some ⟨⟨by omega, by omega⟩, _, h.row_rd 5 rfl encE_len (k := g) (by omega) 0 rfl (by simp only [Int.toNat_natCast, adrO, List.length_singleton]; omega), fun hc1 => ?_, fun hc1 => ?_⟩⟩
    · exact absurd (of_decide_eq_true hc1) (hk5 g hg1 hlt _ (List.getElem?_eq_getElem (by omega)))
    · have h0 := cellN_of (h.rd 2 rfl 0 : cellAt H11 b2 0 = some (I64 g))
      refine ⟨_, h.rd 2 rfl _, ?_⟩
      rw [w64 (x := (g : Int) + 1) (by omega) (by omega)]
      refine h.st 2 rfl rfl fun H13 h => ⟨⟨g + 1, by omega, by omega, h⟩, ?_⟩
      have h1 := cellN_of (h.rd 2 rfl 0 : cellAt H13 b2 0 = some (I64 ((g : Int) + 1)))
      simp only
      rw [h0, h1]; omega
  · obtain rfl : g = k := by have := of_decide_eq_false hc; omega
    have hrow : rows[g] = e := by rw [List.getElem?_eq_getElem hk2] at hk3; exact Option.some.inj hk3
    have hrd := h.row_rds (o := 0 + 1 + ((g : Int)).toNat * 3) 5 rfl encE_len hk2 (by simp only [Int.toNat_natCast, List.length_singleton])
    rw [hrow] at hrd
    refine ⟨_, _, _, h.rds 0 rfl rfl, _, h.rd 4 rfl _, nn_some ⟨⟨by omega, by omega⟩, _, _, _, hrd, ?_⟩⟩
    refine of_spec (e := e) h fun H14 h => ⟨_, _, _, rfl, ?_⟩
    have hrd := h.row_rds (o := 0 + 1 + ((g : Int)).toNat * 3) 5 rfl encE_len hk2 (by simp only [Int.toNat_natCast, List.length_singleton])
    rw [hrow] at hrd
    refine ⟨hrd, h.rd 4 rfl _, _, neq37 e e, _, fun _ => h.rd 0 rfl _, fun hc1 => ?_, fun hc1 => ?_⟩
    · simp at hc1; omega
    · rw [w64 (x := (g : Int) + 1) (by omega) (by omega)]
      refine h.st 2 rfl rfl fun H16 h => ⟨h.getO 1 rfl, kt _ ?_⟩
      have h := h.setO 1 rfl (.loop R)
      refine satL_ex.2 ⟨g + 1, SatL.shut [_, _, _, _, _, _] (SatL.pur ?_ ⟨by omega, ?_⟩)⟩
      · exact h.tl
      · exact hk6
end
end Go.Proofs.Ytgkfpgocbciilaa
