/-
  HoldAgain.
-/
import Derived.Test.YtfgabhogcbmhoaaH6
import Derived.Test.YtfgabhogcbmhoaaHQ
set_option linter.unusedVariables false
set_option linter.unusedSimpArgs false
namespace Go.Proofs.Ytfgabhogcbmhoaa
open Go Go.Nm Go.Proofs

theorem start (H0 : Heap) : SatL H0 [old H0] := by
  show Sat H0 (old H0 * emp)
  rw [sep_emp]; exact sat_start H0
theorem great_no {calls : List CallD} (hg : greatB calls = false) : calls.length ≤ 60 ∧ ∀ x ∈ calls, x.items.length ≤ 100 := by
  simp only [greatB, Bool.or_eq_false_iff, decide_eq_false_iff_not, List.any_eq_false, decide_eq_true_eq] at hg
  exact ⟨by omega, fun x hx => by have := hg.2 x hx; omega⟩

section
variable {H0 : Heap} {next most : Int} {ca : Option Addr} {cc : Nat} {calls : List CallD}

theorem HoldAgain_tail {hb mb : Nat} {s : HS} {K : Value → Heap → Prop} {H : Heap} {ra1 ra2 : Option Addr} {rc1 rc2 : Nat} (ok : s.Ok) (hn : s.next ≤ 1099511627776 + 256 * 60) (hm : s.most = most)
    (h : SatL H [old H0, holdC hb mb s.next most, mapI mb [], slA 2 1 ra1 s.rows.length rc1 ((keysOf s.rows).map I64), slA 2 1 ra2 s.rows.length rc2 (s.rows.map fun p => I64 p.2)])
    (k : ∀ H', Grow H0 H' → K (.bool true) H') :
    HoldAgain.r4 K (some ⟨hb, 0, none⟩) ra1 s.rows.length rc1 s.next ra2 s.rows.length rc2 false H := by
  subst hm
  have hlen := Ok.len ok
  have hb50 : s.next ≤ 1125899906842624 := by omega
  have hm2 := ok.most2
  have hn0 := ok.next0
  unfold HoldAgain.r4
  refine ⟨fun hb => by simp at hb, fun _ => ?_⟩
  refine ⟨fun i H' => ∃ j : Nat, i = j ∧ j ≤ s.rows.length ∧ SatL H' [old H0, holdC hb mb s.next s.most, mapI mb (s.rows.take j), slA 2 1 ra1 s.rows.length rc1 ((keysOf s.rows).map I64), slA 2 1 ra2 s.rows.length rc2 (s.rows.map fun p => I64 p.2)],
    fun i _ => s.rows.length - i.toNat, ⟨0, rfl, Nat.zero_le _, h⟩, ?_⟩
  rintro i H1 ⟨j, rfl, hj, h1⟩
  unfold HoldAgain.l3
  refine ⟨fun hc => ?_, fun hc => ?_⟩
  · have hlt : j < s.rows.length := by simpa using hc
    have hkl : j < (keysOf s.rows).length := by simpa [keysOf] using hlt
    have hr1 := (h1.sl_rd 3 rfl).at hkl
    have hr2 := (h1.sl_rd 4 rfl).at (enc := fun p : Int × Int => I64 p.2) hlt
    have e3 : IntKind.i64.wrap ((j : Int) + 1) = ((j + 1 : Nat) : Int) := w64 (by omega) (by omega)
    have ek : (keysOf s.rows)[j] = s.rows[j].1 := by simp [keysOf]
    rw [ek] at hr1
    refine ⟨⟨by omega, by omega⟩, _, _, hr1.1, _, hr1.2, ⟨by omega, by omega⟩, _, _, hr2.1, _, hr2.2, cellAt_push hr1.2, ?_⟩
    have h2 : SatL _ (cellsA H1.size [I64 s.rows[j].2] 2 :: _) := h1.push (.cells #[I64 s.rows[j].2] 2)
    refine Offer_spec' (offer_again ok (by omega) hlt) (items := [s.rows[j].2]) (h2.ordt [2, 3, 0, 1, 4, 5] 6 (by decide) (by decide)) (Ok.take ok j) hb50 (fun H h => h.ce_rd 0 rfl) (by simp) fun a c H2 ok2 _ _ h3 => ⟨_, _, _, _, rfl, fun hb => by simp at hb, fun _ => ?_⟩
    rw [e3]
    exact ⟨⟨j + 1, rfl, hlt, h3.ordt [4, 1, 2, 5, 6] 7 (by decide) (by decide)⟩, by simp only [Int.toNat_natCast]; omega⟩
  · obtain rfl : j = s.rows.length := by
      have : ¬ ((j : Int) < s.rows.length) := by simpa using hc
      omega
    rw [List.take_of_length_le (Nat.le_refl _)] at h1
    intro Jn hJ
    have hkl : (keysOf s.rows).length = s.rows.length := by simp [keysOf]
    refine Waiting_spec (h1.ordt [1, 2, 0, 3, 4] 5 (by decide) (by decide)) ok.rows.rising (Ok.wf ok hb50) (by omega) fun a c H2 h2 _ => ⟨_, _, _, rfl, ?_⟩
    have hS := SameLongs_spec (c := c) (d := rc1) (h2.sl_rd 0 rfl) (h2.sl_rd 4 rfl) (by omega)
    rw [hkl, decide_t rfl] at hS
    refine ⟨_, hS, fun _ => ?_, fun hb => absurd (by simp) hb⟩
    refine Drain_spec (h2.ordt [1, 2, 0, 3, 4, 5] 6 (by decide) (by decide)) ok.rows.rising (Ok.wf ok hb50) (by omega) fun a2 c2 H3 h3 => ⟨_, _, _, rfl, ?_⟩
    have hrd1 : rdS H3 a2 ((s.rows.map Prod.snd).map I64) := by rw [List.map_map]; exact h3.sl_rd 0 rfl
    have hrd2 : rdS H3 ra2 ((s.rows.map Prod.snd).map I64) := by rw [List.map_map]; exact h3.sl_rd 6 rfl
    have hS2 := SameLongs_spec (c := c2) (d := rc2) hrd1 hrd2 (by simp; omega)
    rw [decide_t rfl, List.length_map] at hS2
    refine ⟨_, hS2, hJ _ _ ?_⟩
    unfold HoldAgain.r2
    refine ⟨fun hb => by simp at hb, fun _ => ⟨fun _ => k _ (h3.old_grow 4 rfl), fun hz => ?_⟩⟩
    have hz : s.next ≠ 0 := by simpa using hz
    have e4 : IntKind.i64.wrap (s.next - 1) = s.next - 1 := w64 (by omega) (by omega)
    rw [e4]
    have h4 : SatL _ (cellsA H3.size [I64 7] 2 :: _) := h3.push (.cells #[I64 7] 2)
    have ok0 : HS.Ok { s with rows := [] } := by have := Ok.take ok 0; simpa using this
    refine Offer_spec' (offer_old (s := { s with rows := [] }) (v := 7) ok0 (by omega) (by omega) (.inl (by simp only; omega))) (items := [7]) (h4.ordt [2, 3, 0, 5] 8 (by decide) (by decide)) ok0 hb50 (fun H h => h.ce_rd 0 rfl) (by simp) fun a c H5 ok2 _ _ h5 => ⟨_, _, _, _, rfl, _, fun _ => Next_spec h5 1 rfl, ?_⟩
    have : ((decide (((([] : List Int).length : Nat) : Int) = 0) && decide ((0 : Int) = 0)) && decide (s.next = s.next)) = true := by simp
    rw [this]
    exact k _ (h5.old_grow 4 rfl)

set_option maxHeartbeats 1000000 in
theorem HoldAgain_true (hc : rdS H0 ca (flat encC calls)) (hq : ∀ x ∈ calls, CallOk H0 x) :
    CallF Try.prog 6 #[I64 next, I64 most, .slice ca calls.length cc] H0 fun v H' => v = .bool true ∧ Grow H0 H' := by
  refine HoldAgain.call ?_
  unfold HoldAgain.code
  refine alive_spec (start H0) fun H1 h1 => ⟨_, rfl, fun hb => by simp at hb, fun _ => ?_⟩
  refine ⟨_, great_C (h1.old_rd 0 rfl hc), fun hg => ⟨rfl, h1.old_grow 0 rfl⟩, fun hg => ?_⟩
  obtain ⟨hg60, hg100⟩ := great_no hg
  refine New_spec h1 (fun hbad => ⟨none, _, rfl, fun _ => ⟨rfl, h1.old_grow 0 rfl⟩, fun hb => by simp at hb⟩) fun hb mb H2 ok hn2 h2 => ⟨_, _, rfl, fun hb => by simp at hb, fun _ => ?_⟩
  refine ⟨fun i H' => ∃ (k : Nat) (s : HS), i = k ∧ k ≤ calls.length ∧ s.Ok ∧ s.most = most ∧ s.next ≤ 1099511627776 + 256 * k ∧ SatL H' [old H0, holdC hb mb s.next most, mapI mb s.rows],
    fun i _ => calls.length - i.toNat, ⟨0, ⟨next, most, []⟩, rfl, Nat.zero_le _, ok, rfl, by simp only; omega, h2.ordt [2, 0, 1] 3 (by decide) (by decide)⟩, ?_⟩
  rintro i H4 ⟨k, s, rfl, hk, sok, rfl, hnx, h4⟩
  have hm2 := sok.most2
  have hb50 : s.next ≤ 1125899906842624 := by omega
  have hlen := Ok.len sok
  unfold HoldAgain.l5
  refine ⟨fun hc1 => ?_, fun hc1 => ?_⟩
  · have hlt : k < calls.length := by simpa using hc1
    have hcr := h4.old_rd 0 rfl hc
    have hsome := hcr.some encC_len (by omega) hlt
    have hi := hg100 _ (List.getElem_mem hlt)
    have hio := hq _ (List.getElem_mem hlt)
    have e3 : IntKind.i64.wrap ((k : Int) + 1) = ((k + 1 : Nat) : Int) := w64 (by omega) (by omega)
    refine ⟨⟨by omega, by omega⟩, _, _, hsome, _, hcr.el0 encC_len hlt rfl, ?_⟩
    intro Jn hJ
    have fin : ∀ (s' : HS) H', s'.Ok → s'.most = s.most → s'.next ≤ 1099511627776 + 256 * (k + 1 : Nat) → SatL H' [old H0, holdC hb mb s'.next s.most, mapI mb s'.rows] → Jn H' := by
      intro s' H' ok' hm' hn' h'
      refine hJ _ ?_
      unfold HoldAgain.r1
      rw [e3]
      exact ⟨⟨k + 1, s', rfl, hlt, ok', hm', hn', h'⟩, by simp only [Int.toNat_natCast]; omega⟩
    refine ⟨fun _ => ⟨⟨by omega, by omega⟩, _, _, hsome, _, hcr.el encC_len hlt 1 rfl, ⟨by omega, by omega⟩, _, _, hsome, _, _, _, hcr.el encC_len hlt 2 rfl, ?_⟩, fun _ => fin s _ sok rfl (by omega) h4⟩
    refine Offer_spec' (s := s) (s' := (s.offer calls[k].first calls[k].items).1) (ready := (s.offer calls[k].first calls[k].items).2.1) (refused := (s.offer calls[k].first calls[k].items).2.2) rfl (h4.ordt [1, 2, 0] 3 (by decide) (by decide)) sok hb50 (fun H h => SatL.old_rd h 0 rfl hio) (by omega) fun a c H5 ok5 o2 o3 h5 => ⟨_, _, _, _, rfl, ?_⟩
    have o4 := (HS.offer_ok sok calls[k].first calls[k].items).2.2.2
    rw [o4] at h5
    exact fin _ _ ok5 o4 (by omega) (h5.ordt [3, 1, 2] 4 (by decide) (by decide))
  · refine Waiting_spec (h4.ordt [1, 2, 0] 3 (by decide) (by decide)) sok.rows.rising (Ok.wf sok hb50) (by omega) fun a1 c1 H5 h5 _ => ⟨_, _, _, rfl, ?_⟩
    refine ⟨_, Next_spec h5 1 rfl, ?_⟩
    refine Drain_spec (h5.ordt [1, 2, 0, 3] 4 (by decide) (by decide)) sok.rows.rising (Ok.wf sok hb50) (by omega) fun a2 c2 H6 h6 => ⟨_, _, _, rfl, ?_⟩
    intro Jn hJ
    have ok0 : HS.Ok { s with rows := [] } := by have := Ok.take sok 0; simpa using this
    refine ⟨fun _ => ?_, fun hb => absurd (by simp) hb⟩
    refine Waiting_spec (rows := []) (h6.ordt [1, 2, 0, 3, 4] 5 (by decide) (by decide)) (by simp [Rising]) (by simp) (by simp) fun a3 c3 H7 h7 _ => ⟨_, _, _, rfl, ?_⟩
    refine ⟨_, fun _ => Next_spec h7 1 rfl, hJ _ _ ?_⟩
    have : ((!decide (((([] : RowL).length : Nat) : Int) = 0)) || (!decide (s.next = s.next))) = false := by simp
    rw [this]
    exact HoldAgain_tail sok (by omega) rfl (h7.ordt [5, 1, 2, 4, 3] 6 (by decide) (by decide)) fun H' g => ⟨rfl, g⟩
end
end Go.Proofs.Ytfgabhogcbmhoaa
