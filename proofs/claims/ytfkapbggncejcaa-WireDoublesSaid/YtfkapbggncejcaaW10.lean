/-
  told, walked.
-/
import Derived.Test.YtfkapbggncejcaaW9
set_option linter.unusedVariables false
set_option linter.unusedSimpArgs false
namespace Go.Proofs.Ytfkapbggncejcaa
open Go Go.Nm Go.Proofs

section
variable {rb wb mb : Nat} {most next : Int} {m : PM} {Q : Assn} {F L : List Assn} {H : Heap} {K : Value → Heap → Prop} {n : Int}

theorem flat_same {own : List Pk} {i : Nat} (hi : i < own.length) {p : Pk} (he : encP p = encP own[i]) : flat encP (own.set i p) = flat encP own := by
  have : (own.set i p).map encP = own.map encP := by
    rw [List.map_set, he]
    apply List.ext_getElem?
    intro j
    rw [List.getElem?_set]
    split
    · rename_i h; subst h
      rw [if_pos (by simpa using hi), List.getElem?_map, List.getElem?_eq_getElem hi]; rfl
    · rfl
  unfold flat
  rw [List.flatMap_def, List.flatMap_def, this]

theorem told_tail {oa : Option Addr} {oc on : Nat} {own : List Pk} {r r1 r2 r3 : Int} {next' : Int} {m' : PM} (hon : on = own.length) (hsmall : own.length ≤ 1000) (hbig : ∀ p ∈ own, p.bytes.length ≤ 1000000) (h : SatL H (slA 37 4 oa own.length oc (flat encP own) :: ownB own :: wireC wb mb most next' :: mapW mb m' :: Q :: F))
    (k : ∀ r H', SatL H' (wireC wb mb most next' :: mapW mb m' :: Q :: F) → K (.bool r) H') :
    ∃ (Inv1 : Int → Heap → Prop) (mu1 : Int → Heap → Nat), Inv1 0 H ∧ ∀ (i1 : Int), ∀ H_12 : Heap, Inv1 i1 H_12 → told.l2 K oa on r r1 r2 r3 Inv1 mu1 i1 H_12 := by
  subst hon
  refine ⟨fun i1 H' => ∃ (j : Nat) (ow : List Pk), i1 = j ∧ j ≤ own.length ∧ ow.length = own.length ∧ (∀ p ∈ ow, p.bytes.length ≤ 1000000) ∧ SatL H' (slA 37 4 oa ow.length oc (flat encP ow) :: ownB ow :: wireC wb mb most next' :: mapW mb m' :: Q :: F), fun i _ => own.length - i.toNat, ⟨0, own, rfl, Nat.zero_le _, rfl, hbig, h⟩, ?_⟩
  rintro i H1 ⟨j, ow, rfl, hj, hol, hbo, h⟩
  unfold told.l2
  refine ⟨fun hc => ?_, fun hc => k _ _ h.tl.tl⟩
  have hlt : j < own.length := by have := of_decide_eq_true hc; omega
  have hlo : j < ow.length := by omega
  refine ⟨fun kk H' => ∃ (q : Nat) (ow' : List Pk), kk = q ∧ ow'.length = own.length ∧ q ≤ ow[j].bytes.length ∧ (∀ hj' : j < ow'.length, ow'[j].bytes.length = ow[j].bytes.length) ∧ (∀ p ∈ ow', p.bytes.length ≤ 1000000) ∧
      SatL H' (slA 37 4 oa ow'.length oc (flat encP ow') :: ownB ow' :: wireC wb mb most next' :: mapW mb m' :: Q :: F), fun kk _ => ow[j].bytes.length - kk.toNat, ⟨0, ow, rfl, hol, Nat.zero_le _, fun _ => rfl, hbo, h⟩, ?_⟩
  rintro kk H2 ⟨q, ow', rfl, hol', hq, hsame, hbo', h⟩
  have hlt' : j < ow'.length := by omega
  have hsj := hsame hlt'
  have hr := h.sl_rd 0 rfl
  have hsome := hr.some encP_len (by omega) hlt'
  have hcell := hr.el encP_len hlt' 3 rfl
  have hmem := List.getElem_mem hlt'
  have hbj := hbo' _ hmem
  unfold told.l1
  refine ⟨⟨by omega, by omega⟩, _, _, hsome, _, _, _, hcell, fun hc2 => ?_, fun hc2 => ?_⟩
  · have hqk : q < ow'[j].bytes.length := by have := of_decide_eq_true hc2; omega
    have hown := ownB_rd (h.ordt [1] 2 (by decide) (by decide)) _ hmem
    have hat := hown.at hqk
    have h2 := h.ordt [1, 0] 2 (by decide) (by decide)
    obtain ⟨ha, hcan, hset⟩ := ownB_set (v := IntKind.u8.wrap (ow'[j].bytes[q] + 1)) h2 hlt' hqk
    refine ⟨⟨by omega, by omega⟩, _, _, hsome, _, _, _, hcell, ⟨by omega, by omega⟩, _, _, ha, _, hat.2, ⟨by omega, by omega⟩, _, _, ha, hcan, fun H14 e => ?_⟩
    rw [w64 (x := (q : Int) + 1) (by omega) (by omega)]
    have h3 := hset H14 e
    refine ⟨⟨q + 1, ow'.set j { ow'[j] with bytes := ow'[j].bytes.set q (IntKind.u8.wrap (ow'[j].bytes[q] + 1)) }, rfl, by rw [List.length_set]; exact hol', by omega, fun _ => ?_, fun p hp => ?_, ?_⟩, by simp only [Int.toNat_natCast]; omega⟩
    · rw [List.getElem_set_self]; simp only [List.length_set]; exact hsj
    · rcases List.mem_or_eq_of_mem_set hp with hp | rfl
      · exact hbo' p hp
      · simp only [List.length_set]; exact hbj
    · rw [List.length_set, flat_same hlt' (by simp [encP])]
      exact h3.ordt [1, 0] 2 (by decide) (by decide)
  · rw [w64 (x := (j : Int) + 1) (by omega) (by omega)]
    exact ⟨⟨j + 1, ow', rfl, hlt, hol', hbo', h⟩, by simp only [Int.toNat_natCast]; omega⟩
end
end Go.Proofs.Ytfkapbggncejcaa
