/-
  Agree; the law's own helpers.
-/
import Derived.Test.YtgkfpgocbciilaaR4
import Derived.Test.YtgkfpgocbciilaaRW
set_option linter.unusedVariables false
set_option linter.unusedSimpArgs false
namespace Go.Proofs.Ytgkfpgocbciilaa
open Go Go.Nm Go.Proofs

section
variable {rb mb sb : Nat} {most most2 : Int} {rows : List En} {F : List Assn} {H : Heap} {K : Value → Heap → Prop}

theorem Agree_spec (ok : RowsOk rows) (h : SatL H (rollC rb mb most :: mapE mb rows :: refC sb most2 rows :: F))
    (k : ∀ H', SatL H' (rollC rb mb most :: mapE mb rows :: refC sb most2 rows :: F) → K (.bool true) H') :
    CallF Try.prog 14 #[.pointer (some ⟨rb, 0, none⟩), .pointer (some ⟨sb, 0, none⟩)] H K := by
  refine Agree.call ?_
  unfold Agree.code
  refine h.al fun b _ h => ?_
  refine h.al fun b1 _ h => ?_
  refine h.al fun b2 _ h => ?_
  refine h.st 0 rfl rfl fun _ h => ?_
  refine All_spec h fun c0 H4 h => ⟨_, _, rfl, fun hf => (by cases hf), fun _ => ⟨rfl, fun R hR1 hR2 hy => ?_⟩⟩
  have h := (h.rng R).ordt [0, 3, 4, 5, 8, 2, 6, 7, 1] 9 (by decide) (by decide)
  have h0 : SatL _ (agA (H4.size + 1) b b1 b2 sb R most2 rows 0 :: cellsA c0 [.pointer (some ⟨rb, 0, none⟩)] 24 :: rollC rb mb most :: mapE mb rows :: pt H4.size (.deferred (some [])) :: F) :=
    satL_ex.2 ⟨0, SatL.shut [_, _, _, _, _, _] (SatL.pur h ⟨by omega, rfl⟩)⟩
  refine All1_spec ok (fun j => agA (H4.size + 1) b b1 b2 sb R most2 rows j) (pur False) h0 (fun j hj G H1 K1 h1 kt _ => hy _ _ _ (Agree_round ok hj h1 kt)) (fun H5 h5 => ?_) (fun H5 h5 => (SatL.consP h5).1.elim)
  obtain ⟨f, h⟩ := satL_ex.1 h5
  obtain ⟨⟨hf, ht⟩, h⟩ := SatL.consP h.open
  rw [List.drop_length] at ht
  have hz := tab_none ht
  have hlen := ok.len
  refine ⟨.ready, none, by decide, by rw [loop_eta hR1 hR2]; exact h.getO 0 rfl, h.stl 0 rfl fun H18 h => Or.inl ⟨rfl, ?_⟩⟩
  refine ⟨fun H' => ∃ g : Nat, f ≤ g ∧ g ≤ 64 ∧ SatL H' (pt (H4.size + 1) (.loop { R with state := .exhausted, pending := none }) :: cellsA b2 [I64 g] 2 :: cellsA b1 [.bool false] 4 :: cellsA b [.pointer (some ⟨sb, 0, none⟩)] 28 :: refC sb most2 rows ::
      cellsA c0 [.pointer (some ⟨rb, 0, none⟩)] 24 :: rollC rb mb most :: mapE mb rows :: pt H4.size (.deferred (some [])) :: F),
    fun H' => 64 - cellN H' b2 0, ⟨f, Nat.le_refl _, hf, h⟩, ?_⟩
  rintro H11 ⟨g, hg1, hg2, h⟩
  unfold Agree.l3
  refine ⟨_, h.rd 1 rfl _, fun hc => ?_, fun hc => ?_⟩
  · have hlt : g < 64 := by have := of_decide_eq_true hc; omega
    refine ⟨_, h.rd 3 rfl _, _, h.rd 1 rfl _, nn_some ⟨⟨by omega, by omega⟩, _, h.row_rd 4 rfl encE_len (k := g) (by omega) 0 rfl (by simp only [Int.toNat_natCast, adrO, List.length_singleton]; omega), fun hc1 => ?_, fun hc1 => ?_⟩⟩
    · refine absurd (of_decide_eq_true hc1) (hz (g - f) rows[g] ?_)
      rw [List.getElem?_drop, show f + (g - f) = g by omega, List.getElem?_eq_getElem (by omega)]
    · have h0 := cellN_of (h.rd 1 rfl 0 : cellAt H11 b2 0 = some (I64 g))
      refine ⟨_, h.rd 1 rfl _, ?_⟩
      rw [w64 (x := (g : Int) + 1) (by omega) (by omega)]
      refine h.st 1 rfl rfl fun H13 h => ⟨⟨g + 1, by omega, by omega, h⟩, ?_⟩
      have h1 := cellN_of (h.rd 1 rfl 0 : cellAt H13 b2 0 = some (I64 ((g : Int) + 1)))
      simp only
      rw [h0, h1]; omega
  · refine h.st 2 rfl rfl fun _ h => ⟨h.getO 8 rfl, ?_⟩
    have h := h.setO 8 rfl (.deferred none)
    exact ⟨_, h.rd 2 rfl _, k _ (h.ordt [6, 7, 4] 9 (by decide) (by decide))⟩
end
end Go.Proofs.Ytgkfpgocbciilaa
