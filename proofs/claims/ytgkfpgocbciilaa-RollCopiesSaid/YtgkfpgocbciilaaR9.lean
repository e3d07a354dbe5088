/-
  RollCopies.
-/
import Derived.Test.YtgkfpgocbciilaaR8
set_option linter.unusedVariables false
set_option linter.unusedSimpArgs false
namespace Go.Proofs.Ytgkfpgocbciilaa
open Go Go.Nm Go.Proofs

section
variable {H0 : Heap} {ca ma : Option Addr} {cc mc : Nat} {calls more : List CallD} {most agent epoch : Int} {rows : List En} {tb tm b b7 l : Nat}

/-- How far the copying has come, before entry j. -/
def cpA (l tb tm b b7 : Nat) (R : Loop) (most : Int) (rows : List En) (j : Nat) : Assn :=
  exS fun f : Nat => star [pur (f ≤ 64 ∧ tab f (rows.drop f) = (tab 0 rows).drop j), pt l (.loop R), cellsA b7 [.bool true] 4, cellsA b [.pointer (some ⟨tb, 0, none⟩)] 24, rollC tb tm most, mapE tm (upto f rows)]

theorem Copies_round {j : Nat} {H11 H1 : Heap} {R : Loop} {G : List Assn} {K1 : Value → Heap → Prop} (ok : RowsOk rows) (hin : RollIn most rows) (hj : j < (tab 0 rows).length)
    (h : SatL H1 (cpA (H11.size + 1) tb tm b b7 R most rows j :: G)) (kt : ∀ H2, SatL H2 (cpA (H11.size + 1) tb tm b b7 R most rows (j + 1) :: G) → K1 (.bool true) H2) :
    RollCopies.y1 b b7 H11 R [I64 (tab 0 rows)[j].1, aggE (tab 0 rows)[j].2] H1 K1 := by
  obtain ⟨f, h⟩ := satL_ex.1 h
  obtain ⟨⟨hf, ht⟩, h⟩ := SatL.consP h.open
  have hlen := ok.len
  have hcnt : (tab 0 (upto f rows)).length = j := by
    rw [tab_upto]
    have := congrArg List.length (tab_split rows (f := f) (by omega))
    rw [List.length_append, ht, List.length_drop] at this
    omega
  rw [List.drop_eq_getElem_cons hj] at ht
  obtain ⟨k, hk0, hk1, hk2, hk3, hk4, hk5, hk6⟩ := tab_first (Nat.le_refl _) (show tab f (rows.drop f) = ((tab 0 rows)[j].1, (tab 0 rows)[j].2) :: _ from ht)
  rw [hk0]
  generalize (tab 0 rows)[j].2 = e at *
  have hmem : e ∈ rows := List.mem_of_getElem? hk3
  have he := ok.ep e hmem
  have hi := hin.1 e hmem hk4
  have oku := upto_ok ok hf
  have hrow : rowE (upto f rows) (k : Int) = En.z := by
    have hlook := look_row (rows := upto f rows) (k : Int)
    by_cases hp : 0 < (rowE (upto f rows) (k : Int)).epoch
    · rw [if_pos hp, tab_upto] at hlook
      obtain ⟨p, hp1⟩ : ∃ p ∈ tab 0 (rows.take f), p.1 = (k : Int) := ⟨_, mlook_some_mem hlook, rfl⟩
      have := tab_keys hp1.1
      rw [List.length_take] at this
      omega
    · exact oku.rowZ _ hp
  have hset : setR most (upto f rows) k e = (upto (k + 1) rows, 0) := by
    unfold setR
    rw [if_neg (by simp only [bad]; omega), if_neg (by rw [hrow]; decide), if_neg (by unfold full; rw [hcnt]; have := hin.2; omega)]
    rw [Int.toNat_natCast, upto_set ok hk2 hk1 hk3 hk5]
  unfold RollCopies.y1
  refine ⟨_, _, _, _, rfl, h.getO 0 rfl, ?_⟩
  refine h.al fun b3 _ h => ?_
  refine h.st 0 rfl rfl fun _ h => ?_
  refine ⟨h.getO 1 rfl, h.stl 1 rfl fun H9 h => ?_⟩
  refine ⟨_, h.rd 3 rfl _, _, _, _, h.rds 0 rfl rfl, ?_⟩
  refine Set_spec' (x := e) hset oku (h.ordt [4, 5, 1, 2, 3] 6 (by decide) (by decide)) fun H16 ok' h => ⟨_, rfl, _, fun _ => h.rd 3 rfl _, ?_⟩
  refine h.st 3 rfl rfl fun _ h => ⟨h.getO 2 rfl, kt _ ?_⟩
  have h := (h.setO 2 rfl (.loop R)).ordt [2, 3, 4, 0, 1] 5 (by decide) (by decide)
  exact satL_ex.2 ⟨k + 1, SatL.shut [_, _, _, _, _, _] (SatL.pur h ⟨by omega, hk6⟩)⟩

theorem RollCopies_true (hc : rdS H0 ca (flat encC calls)) (hq : ∀ x ∈ calls, True) (hmr : rdS H0 ma (flat encC more)) (hq2 : ∀ x ∈ more, True) :
    CallF Try.prog 5 #[I64 most, .slice ca calls.length cc, .slice ma more.length mc] H0 fun v H' => v = .bool true ∧ Grow H0 H' := by
  refine RollCopies.call ?_
  unfold RollCopies.code
  refine alive_spec (sat0 H0) fun H1 h => ⟨_, rfl, fun hc => by simp at hc, fun _ => ⟨fun _ => ⟨rfl, h.old_grow 0 rfl⟩, fun hlen => ?_⟩⟩
  have hlen : calls.length ≤ 100 ∧ more.length ≤ 100 := by
    simp only [Bool.or_eq_false_iff, decide_eq_false_iff_not] at hlen; omega
  refine New_spec h (fun hm => ⟨_, _, rfl, ?_⟩) (fun hm rb mb H2 h => ⟨_, _, rfl, ?_⟩)
  · refine RNew_spec h (fun _ => ⟨_, _, rfl, ?_⟩) (fun hm2 => absurd hm hm2)
    refine New_spec h (fun _ => ⟨_, _, rfl, ?_⟩) (fun hm2 => absurd hm hm2)
    refine h.al fun b _ h => h.st 0 rfl rfl fun _ h => ⟨none, fun hf => by simp at hf, fun _ => ⟨rfl, h.old_grow 1 rfl⟩, fun hf => by simp at hf⟩
  refine RNew_spec h (fun hm2 => absurd hm2 hm) fun _ sb H3 h => ⟨_, _, rfl, ?_⟩
  refine New_spec h (fun hm2 => absurd hm2 hm) fun _ tb tm H3 h => ⟨_, _, rfl, ?_⟩
  refine h.al fun b _ h => h.st 0 rfl rfl fun _ h => ⟨_, fun _ => h.rd 0 rfl _, fun hf => by simp at hf, fun _ => ?_⟩
  refine ⟨fun i H' => ∃ (k : Nat) (rows : List En), i = k ∧ k ≤ calls.length ∧ RowsOk rows ∧ RollIn most rows ∧ SatL H' [rollC rb mb most, mapE mb rows, refC sb most rows, cellsA b [.pointer (some ⟨tb, 0, none⟩)] 24, rollC tb tm most, mapE tm (List.replicate 64 En.z), old H0], fun i _ => calls.length - i.toNat,
    ⟨0, _, rfl, Nat.zero_le _, rowsOk_new, rowsIn_new (by omega), h.ordt [4, 5, 3, 0, 1, 2, 6] 7 (by decide) (by decide)⟩, ?_⟩
  rintro i H4 ⟨k, rows, rfl, hk, ok, hin, h⟩
  unfold RollCopies.l4
  refine ⟨fun hc1 => ?_, fun hc1 => ?_⟩
  · have hlt : k < calls.length := by have := of_decide_eq_true hc1; omega
    have hcr := h.old_rd 6 rfl hc
    have e3 : IntKind.i64.wrap ((k : Int) + 1) = ((k + 1 : Nat) : Int) := w64 (by omega) (by omega)
    have hsome := hcr.some encC_len (by omega) hlt
    refine ⟨⟨by omega, by omega⟩, _, _, hsome, _, hcr.el encC_len hlt 1 rfl, ⟨by omega, by omega⟩, _, _, hsome, _, hcr.el encC_len hlt 2 rfl, ⟨by omega, by omega⟩, _, _, hsome, _, hcr.el encC_len hlt 3 rfl, ?_⟩
    refine Grant_spec ok h fun H6 h => ⟨_, _, _, _, _, rfl, ?_⟩
    have hcr := h.old_rd 6 rfl hc
    refine ⟨⟨by omega, by omega⟩, _, _, hsome, _, hcr.el encC_len hlt 1 rfl, ⟨by omega, by omega⟩, _, _, hsome, _, hcr.el encC_len hlt 2 rfl, ⟨by omega, by omega⟩, _, _, hsome, _, hcr.el encC_len hlt 3 rfl, ?_⟩
    refine RGrant_spec ok (h.ordt [2, 0, 1] 3 (by decide) (by decide)) fun H6 h => ⟨_, _, _, _, _, rfl, ?_⟩
    rw [e3]
    exact ⟨⟨k + 1, _, rfl, hlt, grant_ok ok _ _ _, grant_in ok hin _ _ _, h.ordt [1, 2, 0] 3 (by decide) (by decide)⟩, by simp only [Int.toNat_natCast]; omega⟩
  refine h.al fun b7 _ h => h.st 0 rfl rfl fun _ h => ?_
  refine All_spec h fun c0 H11 h => ⟨_, _, rfl, rfl, fun R hR1 hR2 hy => ?_⟩
  have h := (h.rng R).ordt [0, 3, 7, 8, 9, 2, 4, 5, 1, 6] 10 (by decide) (by decide)
  rw [← upto_zero rows] at h
  have h0 : SatL _ (cpA (H11.size + 1) tb tm b b7 R most rows 0 :: _) := satL_ex.2 ⟨0, SatL.shut [_, _, _, _, _, _] (SatL.pur h ⟨by omega, rfl⟩)⟩
  refine All1_spec ok (fun j => cpA (H11.size + 1) tb tm b b7 R most rows j) (pur False) h0 (fun j hj G H1 K1 h1 kt _ => hy _ _ _ (Copies_round ok hin hj h1 kt)) (fun H5 h5 => ?_) (fun H5 h5 => (SatL.consP h5).1.elim)
  obtain ⟨f, h⟩ := satL_ex.1 h5
  obtain ⟨⟨hf, ht⟩, h⟩ := SatL.consP h.open
  rw [List.drop_length] at ht
  rw [upto_all ok hf ht] at h
  refine ⟨.ready, none, by decide, by rw [loop_eta hR1 hR2]; exact h.getO 0 rfl, h.stl 0 rfl fun H26 h => ⟨rfl, ?_⟩⟩
  refine Clone_spec (h.ordt [6, 7, 0, 1, 2, 3, 4, 5] 8 (by decide) (by decide)) fun cb cm H20 h => ⟨_, rfl, _, h.rd 5 rfl _, fun hf => by simp at hf, fun _ => ?_⟩
  refine ⟨fun i H' => ∃ (k : Nat) (rows' : List En), i = k ∧ k ≤ more.length ∧ RowsOk rows' ∧ SatL H' [rollC rb mb most, mapE mb rows', rollC cb cm most, mapE cm rows, refC sb most rows, rollC tb tm most, mapE tm rows, cellsA b [.pointer (some ⟨tb, 0, none⟩)] 24, pt H11.size (.deferred (some [])), old H0], fun i _ => more.length - i.toNat,
    ⟨0, _, rfl, Nat.zero_le _, ok, ?_⟩, ?_⟩
  · exact h.ordt [2, 3, 0, 1, 11, 7, 8, 6, 10, 12] 13 (by decide) (by decide)
  rintro i H4 ⟨k, rows', rfl, hk, ok', h⟩
  unfold RollCopies.l3
  refine ⟨fun hc1 => ?_, fun hc1 => ?_⟩
  · have hlt : k < more.length := by have := of_decide_eq_true hc1; omega
    have hcr := h.old_rd 9 rfl hmr
    have e3 : IntKind.i64.wrap ((k : Int) + 1) = ((k + 1 : Nat) : Int) := w64 (by omega) (by omega)
    have hsome := hcr.some encC_len (by omega) hlt
    refine ⟨⟨by omega, by omega⟩, _, _, hsome, _, hcr.el encC_len hlt 1 rfl, ⟨by omega, by omega⟩, _, _, hsome, _, hcr.el encC_len hlt 2 rfl, ⟨by omega, by omega⟩, _, _, hsome, _, hcr.el encC_len hlt 3 rfl, ?_⟩
    refine Grant_spec ok' h fun H6 h => ⟨_, _, _, _, _, rfl, ?_⟩
    rw [e3]
    exact ⟨⟨k + 1, _, rfl, hlt, grant_ok ok' _ _ _, h⟩, by simp only [Int.toNat_natCast]; omega⟩
  · intro Jn hJ
    refine Agree_spec ok (h.ordt [2, 3, 4, 0, 1] 5 (by decide) (by decide)) fun H6 h => ⟨_, rfl, _, fun _ => h.rd 7 rfl _, fun _ => ?_, fun hn => absurd rfl hn⟩
    refine Agree_spec ok (h.ordt [5, 6, 2, 0, 1, 3, 4] 7 (by decide) (by decide)) fun H6 h => ⟨_, rfl, hJ _ _ ⟨h.getO 8 rfl, rfl, ?_⟩⟩
    exact (h.setO 8 rfl (.deferred none)).old_grow 9 rfl
end
end Go.Proofs.Ytgkfpgocbciilaa
