/-
  HoldOrder.
-/
import Derived.Test.YtfgabhogcbmhoaaH7
set_option linter.unusedVariables false
set_option linter.unusedSimpArgs false
namespace Go.Proofs.Ytfgabhogcbmhoaa
open Go Go.Nm Go.Proofs

section
variable {H0 : Heap} {next most : Int} {ca : Option Addr} {cc : Nat} {calls : List CallD}

set_option maxHeartbeats 1000000 in
theorem HoldOrder_true (hc : rdS H0 ca (flat encC calls)) (hq : ∀ x ∈ calls, CallOk H0 x) :
    CallF Try.prog 4 #[I64 next, I64 most, .slice ca calls.length cc] H0 fun v H' => v = .bool true ∧ Grow H0 H' := by
  refine HoldOrder.call ?_
  unfold HoldOrder.code
  refine alive_spec (start H0) fun H1 h1 => ⟨_, rfl, fun hb => by simp at hb, fun _ => ?_⟩
  refine ⟨_, great_C (h1.old_rd 0 rfl hc), fun hg => ⟨rfl, h1.old_grow 0 rfl⟩, fun hg => ?_⟩
  obtain ⟨hg60, hg100⟩ := great_no hg
  refine New_spec h1 (fun hbad => ⟨none, _, rfl, fun _ => ⟨rfl, h1.old_grow 0 rfl⟩, fun hb => by simp at hb⟩) fun hb mb H2 ok hn2 h2 => ⟨_, _, rfl, fun hb => by simp at hb, fun _ => ?_⟩
  refine ⟨fun w i H' => ∃ (k : Nat) (s : HS), i = k ∧ k ≤ calls.length ∧ s.Ok ∧ s.most = most ∧ s.next = w ∧ ToldR s.rows ∧ s.next ≤ 1099511627776 + 256 * k ∧ SatL H' [old H0, holdC hb mb s.next most, mapI mb s.rows],
    fun _ i _ => calls.length - i.toNat, ⟨0, ⟨next, most, []⟩, rfl, Nat.zero_le _, ok, rfl, rfl, by simp [ToldR], by simp only; omega, h2.ordt [2, 0, 1] 3 (by decide) (by decide)⟩, ?_⟩
  rintro w i H4 ⟨k, s, rfl, hk, sok, rfl, rfl, ht, hnx, h4⟩
  have hm2 := sok.most2
  have hm1 := sok.most1
  have hn0 := sok.next0
  have hb50 : s.next ≤ 1125899906842624 := by omega
  unfold HoldOrder.l5
  refine ⟨fun hc1 => ?_, fun hc1 => ⟨rfl, h4.old_grow 0 rfl⟩⟩
  have hlt : k < calls.length := by simpa using hc1
  have hcr := h4.old_rd 0 rfl hc
  have hsome := hcr.some encC_len (by omega) hlt
  have hi := hg100 _ (List.getElem_mem hlt)
  have e3 : IntKind.i64.wrap ((k : Int) + 1) = ((k + 1 : Nat) : Int) := w64 (by omega) (by omega)
  intro Jn hJ
  have fin : ∀ (s' : HS) H', s'.Ok → s'.most = s.most → ToldR s'.rows → s'.next ≤ 1099511627776 + 256 * (k + 1 : Nat) → SatL H' [old H0, holdC hb mb s'.next s.most, mapI mb s'.rows] → Jn s'.next H' := by
    intro s' H' ok' hm' ht' hn' h'
    refine hJ _ _ ?_
    unfold HoldOrder.r1
    rw [e3]
    exact ⟨⟨k + 1, s', rfl, hlt, ok', hm', rfl, ht', hn', h'⟩, by simp only [Int.toNat_natCast]; omega⟩
  have h5a : SatL _ (cellsA H4.size [I64 0, I64 0, .slice none 0 0] 34 :: _) := h4.push (.cells #[I64 0, I64 0, .slice none 0 0] 34)
  have h5 : SatL _ (cellsA H4.size (encC calls[k]) 34 :: [old H0, holdC hb mb s.next s.most, mapI mb s.rows]) := h5a.set 0 rfl 0 (encC calls[k])
  refine ⟨⟨by omega, by omega⟩, _, _, hsome, _, _, _, _, _, hcr.els encC_len hlt, h5a.can 0 rfl _ _ (by simp), _, h5.rd 0 rfl _, _, fun _ => h5.rd 0 rfl _, _, fun _ => h5.rd 0 rfl _, fun _ => ?_, fun hc2 => ?_⟩
  · exact fin s _ sok rfl ht (by omega) (h5.tl)
  · have hf : calls[k].what = 0 ∧ 0 ≤ calls[k].first ∧ calls[k].first ≤ 2199023255552 := by
      simp at hc2; omega
    obtain ⟨_, hf0, hf1⟩ := hf
    have hh : ∀ H', SatL H' [cellsA H4.size (encC calls[k]) 34, old H0, holdC hb mb s.next s.most, mapI mb s.rows] → True := fun _ _ => trivial
    have h6 := h5.push (.cells #[] 2)
    refine ⟨fun ia n c i H' => ∃ j : Nat, i = j ∧ j = n ∧ j ≤ calls[k].items.length ∧ SatL H' [slA 2 1 ia j c ((iota calls[k].first j).map I64), cellsA H4.size (encC calls[k]) 34, old H0, holdC hb mb s.next s.most, mapI mb s.rows],
      fun _ _ _ i _ => calls[k].items.length - i.toNat, ⟨0, rfl, rfl, Nat.zero_le _, SatL.sl_pt (cs := []) h6 1 0 rfl⟩, ?_⟩
    rintro ia n c i H6 ⟨j, rfl, rfl, hj, h7⟩
    unfold HoldOrder.l4
    refine ⟨_, _, _, h7.rd 1 rfl _, fun hc3 => ?_, fun hc3 => ?_⟩
    · have hltj : j < calls[k].items.length := by simpa using hc3
      have e4 : IntKind.i64.wrap ((j : Int) + 1) = ((j + 1 : Nat) : Int) := w64 (by omega) (by omega)
      have e5 : IntKind.i64.wrap (calls[k].first + (j : Int)) = calls[k].first + j := w64 (by omega) (by omega)
      refine ⟨_, h7.rd 1 rfl _, ?_⟩
      simp only [e5]
      refine h7.append1 sl32 0 rfl (by rfl) (by rfl) (by omega) (by omega) fun a' c' H7 h8 => ⟨_, _, _, rfl, ?_⟩
      rw [e4]
      refine ⟨⟨j + 1, rfl, rfl, hltj, ?_⟩, by simp only [Int.toNat_natCast]; omega⟩
      rw [iota_snoc, List.map_append]
      exact h8
    · obtain rfl : j = calls[k].items.length := by
        have : ¬ ((j : Int) < calls[k].items.length) := by simpa using hc3
        omega
      refine ⟨_, h7.rd 1 rfl _, ?_⟩
      obtain ⟨t1, t2, t3, t4, t5⟩ := offer_told sok ht calls[k].first calls[k].items.length
      have o4 := (HS.offer_ok sok calls[k].first (iota calls[k].first calls[k].items.length)).2.2.2
      have hof := Offer_spec' (s := s) (s' := (s.offer calls[k].first (iota calls[k].first calls[k].items.length)).1) (ready := (s.offer calls[k].first (iota calls[k].first calls[k].items.length)).2.1) (refused := (s.offer calls[k].first (iota calls[k].first calls[k].items.length)).2.2) (first := calls[k].first) (ia := ia) (ic := c) (items := iota calls[k].first calls[k].items.length) rfl
        (h7.ordt [3, 4, 0, 1, 2] 5 (by decide) (by decide)) sok hb50 (fun H h => h.sl_rd 0 rfl) (by simp; omega)
        (K := fun u3 H_6 => ∃ ra : Option Addr, ∃ rn : Nat, ∃ rc : Nat, ∃ r4 : Int, u3 = (.tuple #[(.slice ra rn rc), (.int .i64 r4)]) ∧ r4 = (s.offer calls[k].first (iota calls[k].first calls[k].items.length)).2.2 ∧ rn = (s.offer calls[k].first (iota calls[k].first calls[k].items.length)).2.1.length ∧ (s.offer calls[k].first (iota calls[k].first calls[k].items.length)).1.Ok ∧
          s.next ≤ (s.offer calls[k].first (iota calls[k].first calls[k].items.length)).1.next ∧ (s.offer calls[k].first (iota calls[k].first calls[k].items.length)).1.next ≤ s.next + s.most ∧
          SatL H_6 [slA 2 1 ra (s.offer calls[k].first (iota calls[k].first calls[k].items.length)).2.1.length rc ((s.offer calls[k].first (iota calls[k].first calls[k].items.length)).2.1.map I64), old H0, holdC hb mb (s.offer calls[k].first (iota calls[k].first calls[k].items.length)).1.next s.most, mapI mb (s.offer calls[k].first (iota calls[k].first calls[k].items.length)).1.rows])
        fun a2 c2 H7 ok7 o2 o3 h8 => ⟨_, _, _, _, rfl, rfl, rfl, ok7, o2, o3, by rw [o4] at h8; exact h8.ordt [0, 5, 1, 2] 6 (by decide) (by decide)⟩
      rw [iota_length] at hof
      refine hof.mono ?_
      generalize s.offer calls[k].first (iota calls[k].first calls[k].items.length) = r at *
      obtain ⟨s', ready, refused⟩ := r
      simp only at t1 t2 t3 t4 t5 o4
      rintro _ H7 ⟨a2, _, c2, _, rfl, rfl, rfl, ok7, o2, o3, h8⟩
      simp only at ok7 o2 o3 h8
      dsimp only
      refine ⟨_, _, _, _, rfl, fun hb => ?_, fun _ => ?_⟩
      · simp at hb; omega
      · have hm7 := ok7.most2
        have hb57 : s'.next ≤ 1125899906842624 := by omega
        have hlen7 := Ok.len ok7
        have hrl : ready.length ≤ 256 := by omega
        refine ⟨fun w i H' => ∃ j : Nat, i = j ∧ w = s.next + j ∧ j ≤ ready.length ∧ SatL H' [slA 2 1 a2 ready.length c2 (ready.map I64), old H0, holdC hb mb s'.next s.most, mapI mb s'.rows],
          fun _ i _ => ready.length - i.toNat, ⟨0, rfl, by simp, Nat.zero_le _, h8⟩, ?_⟩
        rintro w i H8 ⟨j, rfl, rfl, hj, h9⟩
        unfold HoldOrder.l3
        refine ⟨fun hc4 => ?_, fun hc4 => ?_⟩
        · have hltj : j < ready.length := by simpa using hc4
          have hrd := (h9.sl_rd 0 rfl).at hltj
          have ev : ready[j] = s.next + j := by
            have : ready[j]? = (iota s.next ready.length)[j]? := by rw [← t2]
            rw [List.getElem?_eq_getElem hltj, List.getElem?_eq_getElem (by simpa using hltj)] at this
            rw [iota_get] at this
            exact Option.some.inj this
          have e4 : IntKind.i64.wrap ((j : Int) + 1) = ((j + 1 : Nat) : Int) := w64 (by omega) (by omega)
          have e5 : IntKind.i64.wrap (s.next + (j : Int) + 1) = s.next + (j + 1 : Nat) := by rw [w64 (by omega) (by omega)]; omega
          refine ⟨⟨by omega, by omega⟩, _, _, hrd.1, _, hrd.2, fun hb => ?_, fun _ => ?_⟩
          · rw [ev] at hb; simp at hb
          · rw [e4, e5]
            exact ⟨⟨j + 1, rfl, rfl, hltj, h9⟩, by simp only [Int.toNat_natCast]; omega⟩
        · obtain rfl : j = ready.length := by
            have : ¬ ((j : Int) < ready.length) := by simpa using hc4
            omega
          rw [← t3]
          refine Waiting_spec (h9.ordt [2, 3, 0, 1] 4 (by decide) (by decide)) ok7.rows.rising (Ok.wf ok7 hb57) (by omega) fun a3 c3 H9 h10 _ => ⟨_, _, _, rfl, ?_⟩
          refine ⟨_, Next_spec h10 1 rfl, ?_⟩
          have hw := ok7.rows.length
          have hm71 := ok7.most1
          refine ⟨fun hb => ?_, fun _ => ?_⟩
          · simp at hb; omega
          · refine ⟨fun i H' => ∃ q : Nat, i = q ∧ q ≤ s'.rows.length ∧ SatL H' [slA 2 1 a3 s'.rows.length c3 ((keysOf s'.rows).map I64), old H0, holdC hb mb s'.next s.most, mapI mb s'.rows],
              fun i _ => s'.rows.length - i.toNat, ⟨0, rfl, Nat.zero_le _, h10.ordt [0, 4, 1, 2] 5 (by decide) (by decide)⟩, ?_⟩
            rintro i H10 ⟨q, rfl, hq1, h11⟩
            unfold HoldOrder.l2
            refine ⟨fun hc5 => ?_, fun _ => ?_⟩
            · have hltq : q < s'.rows.length := by simpa using hc5
              have hk2 : (keysOf s'.rows).length = s'.rows.length := by simp [keysOf]
              have hkey : ∀ z (hz : z < s'.rows.length), (keysOf s'.rows)[z]'(by omega) = s'.rows[z].1 := fun z hz => by simp [keysOf]
              have hrd := (h11.sl_rd 0 rfl).at (j := q) (by omega)
              rw [hkey q hltq] at hrd
              have hin := ok7.rows.inb _ (List.getElem_mem hltq)
              have e4 : IntKind.i64.wrap ((q : Int) + 1) = ((q + 1 : Nat) : Int) := w64 (by omega) (by omega)
              have e5 : IntKind.i64.wrap (s'.next + s.most) = s'.next + s.most := w64 (by omega) (by omega)
              rw [e4, e5]
              rw [o4] at hin
              have good : (decide (s'.rows[q].1 ≤ s'.next) || decide (s'.next + s.most ≤ s'.rows[q].1)) = false := by simp; omega
              refine ⟨⟨by omega, by omega⟩, _, _, hrd.1, _, hrd.2, fun _ => ⟨by omega, by omega⟩, _, _, fun _ => hrd.1, _, fun _ => hrd.2, fun _ => ⟨by omega, by omega⟩, _, _, fun _ => hrd.1, _, fun _ => hrd.2, ?_⟩
              by_cases hq0 : 0 < q
              · have e6 : IntKind.i64.wrap ((q : Int) - 1) = ((q - 1 : Nat) : Int) := by rw [w64 (by omega) (by omega)]; omega
                have hrd2 := (h11.sl_rd 0 rfl).at (j := q - 1) (by omega)
                rw [hkey (q - 1) (by omega)] at hrd2
                have hrise := List.pairwise_iff_getElem.1 ok7.rows.rising (q - 1) q (by omega) hltq (by omega)
                rw [e6]
                refine ⟨fun _ => ⟨by omega, by omega⟩, _, _, fun _ => hrd2.1, _, fun _ => hrd2.2, fun hb => ?_, fun _ => ?_⟩
                · rw [good] at hb; simp at hb; omega
                · exact ⟨⟨q + 1, rfl, hltq, h11⟩, by simp only [Int.toNat_natCast]; omega⟩
              · obtain rfl : q = 0 := by omega
                refine ⟨fun hb => absurd hb.2 (by simp), 0, 0, fun hb => absurd hb.2 (by simp), 0, fun hb => absurd hb.2 (by simp), fun hb => ?_, fun _ => ?_⟩
                · rw [good] at hb; simp at hb
                · exact ⟨⟨0 + 1, rfl, hltq, h11⟩, by simp only [Int.toNat_natCast]; omega⟩
            · exact fin s' _ ok7 o4 t1 (by omega) (h11.ordt [1, 2, 3] 4 (by decide) (by decide))
end
end Go.Proofs.Ytfgabhogcbmhoaa
