/-
  The wire's functions, walked (2).
-/
import Derived.Test.YtfkapbggncejcaaW1
set_option linter.unusedVariables false
set_option linter.unusedSimpArgs false
namespace Go.Nm
open Go
def putC : Int → List Pk → List (Int × Core) → List (Int × Core)
  | _, [], cm => cm
  | n, p :: r, cm => putC (n + 1) r (mset n p.core cm)
end Go.Nm
namespace Go.Proofs.Ytfkapbggncejcaa
open Go Go.Nm Go.Proofs

section
variable {wb mb : Nat} {most next : Int} {m : PM} {Q : Assn} {F : List Assn} {H : Heap} {K : Value → Heap → Prop}

theorem New_spec (h : SatL H F) (k1 : most < 1 ∨ 4096 < most → K (.tuple #[.pointer none, I64 11]) H)
    (k2 : ¬ (most < 1 ∨ 4096 < most) → (∀ Q, WOk Q most 0 []) → ∀ wb mb H', SatL H' (wireC wb mb most 0 :: mapW mb [] :: F) → K (.tuple #[.pointer (some ⟨wb, 0, none⟩), I64 0]) H') :
    CallF Try.prog 7 #[I64 most] H K := by
  refine wire_New.call ⟨fun hc => k1 (by simpa using hc), fun hc => ?_⟩
  refine h.alm I64 aggP fun mb _ h => ?_
  refine h.al fun wb _ h => ?_
  have hm : ¬ (most < 1 ∨ 4096 < most) := by simp at hc; omega
  exact k2 hm (fun Q => ⟨by omega, by omega, by simp; omega, fun p hp => (by cases hp), Int.le_refl _, fun p hp => (by cases hp), fun p hp => (by cases hp), List.nodup_nil⟩) _ _ _ h

theorem Put_spec {la : Option Addr} {lc : Nat} {list : List Pk} (ok : WOk Q most next m) (hn : next ≤ 1125899906842624) (hlen : list.length ≤ 1000000)
    (hl : ∀ Q' H, Sub Q Q' → SatL H (Q' :: F) → rdS H la (flat encP list) ∧ ∀ p ∈ list, rdS H p.a (p.bytes.map U8)) (hb : ∀ p ∈ list, p.bytes.length ≤ 1000000)
    (h : SatL H (wireC wb mb most next :: mapW mb m :: Q :: F))
    (k1 : (∃ p ∈ list, badP p) → ∀ H', SatL H' (wireC wb mb most next :: mapW mb m :: Q :: F) → K (.tuple #[I64 (-1), I64 10]) H')
    (k2 : most < (m.length : Int) + list.length → ∀ H', SatL H' (wireC wb mb most next :: mapW mb m :: Q :: F) → K (.tuple #[I64 (-1), I64 20]) H')
    (k3 : (∀ p ∈ list, ¬ badP p) → (m.length : Int) + list.length ≤ most → ∀ Q' m' H', Sub Q Q' → WOk Q' most (next + list.length) m' → cores m' = putC next list (cores m) →
      SatL H' (wireC wb mb most (next + list.length) :: mapW mb m' :: Q' :: F) → K (.tuple #[I64 next, I64 0]) H') :
    CallF Try.prog 8 #[.pointer (some ⟨wb, 0, none⟩), .slice la list.length lc] H K := by
  have hm1 := ok.m1
  have hm2 := ok.m2
  have hml := ok.len
  have hn0 := ok.next0
  refine wire_Put.call ?_
  unfold wire_Put.code
  refine ⟨fun i H' => ∃ k : Nat, i = k ∧ k ≤ list.length ∧ (∀ p ∈ list.take k, ¬ badP p) ∧ SatL H' (wireC wb mb most next :: mapW mb m :: Q :: F), fun i _ => list.length - i.toNat, ⟨0, rfl, Nat.zero_le _, by simp, h⟩, ?_⟩
  rintro i H1 ⟨k, rfl, hk, hgood, h⟩
  unfold wire_Put.l2
  refine ⟨fun hc => ?_, fun hc => ?_⟩
  · have hlt : k < list.length := by have := of_decide_eq_true hc; omega
    have hr := (hl Q H1 (Sub.refl Q) h.tl.tl).1
    refine ⟨⟨by omega, by omega⟩, _, _, hr.some encP_len (by omega) hlt, _, _, _, _, _, _, hr.els encP_len hlt, ?_⟩
    repeat (first
      | refine h.al fun _ _ h => ?_
      | refine nn_some ?_
      | refine ⟨fun _ => trivial, ?_⟩
      | refine ⟨_, h.rd 0 rfl _, ?_⟩
      | refine h.st 0 rfl rfl fun _ h => ?_
      | refine ⟨_, fun _ => h.rd 0 rfl _, ?_⟩)
    refine ⟨fun hc1 => ?_, fun hc1 => ?_⟩
    · refine k1 ⟨list[k], List.getElem_mem hlt, ?_⟩ _ h.tl
      simp only [Bool.or_eq_true, decide_eq_true_eq] at hc1
      unfold badP; omega
    · rw [w64 (x := (k : Int) + 1) (by omega) (by omega)]
      refine ⟨⟨k + 1, rfl, hlt, fun p hp => ?_, h.tl⟩, by simp only; omega⟩
      rw [List.take_succ_eq_append_getElem hlt] at hp
      rcases List.mem_append.1 hp with hp | hp
      · exact hgood p hp
      · rw [List.mem_singleton] at hp
        subst hp
        simp only [Bool.or_eq_false_iff, decide_eq_false_iff_not] at hc1
        unfold badP; omega
  obtain rfl : k = list.length := by have := of_decide_eq_false hc; omega
  rw [List.take_of_length_le (Nat.le_refl _)] at hgood
  refine ⟨_, h.rd 0 rfl _, _, h.rd 0 rfl _, _, h.mp_len mt29 1 rfl, ?_⟩
  rw [w64 (x := most - (m.length : Int)) (by omega) (by omega)]
  refine ⟨fun hc1 => k2 (by have := of_decide_eq_true hc1; omega) _ h, fun hc1 => ⟨_, h.rd 0 rfl _, ?_⟩⟩
  have hfit : (m.length : Int) + list.length ≤ most := by have := of_decide_eq_false hc1; omega
  refine ⟨fun i H' => ∃ (j : Nat) (Q' : Assn) (m' : PM), i = j ∧ j ≤ list.length ∧ Sub Q Q' ∧ WOk Q' most (next + j) m' ∧ (m'.length : Int) = m.length + j ∧ putC (next + j) (list.drop j) (cores m') = putC next list (cores m) ∧
      SatL H' (wireC wb mb most (next + j) :: mapW mb m' :: Q' :: F), fun i _ => list.length - i.toNat,
    ⟨0, Q, m, rfl, Nat.zero_le _, Sub.refl Q, by simpa using ok, by simp, by simp, by simpa using h⟩, ?_⟩
  rintro i H2 ⟨j, Q', m', rfl, hj, hs, ok', hml', hput, h⟩
  unfold wire_Put.l1
  refine ⟨fun hc2 => ?_, fun hc2 => ?_⟩
  · have hlt : j < list.length := by have := of_decide_eq_true hc2; omega
    have hr := (hl Q' H2 hs h.tl.tl).1
    have hp := List.getElem_mem hlt
    refine ⟨⟨by omega, by omega⟩, _, _, hr.some encP_len (by omega) hlt, _, _, _, _, _, _, hr.els encP_len hlt, ?_⟩
    repeat (first
      | refine h.al fun _ _ h => ?_
      | refine nn_some ?_
      | refine ⟨fun _ => trivial, ?_⟩
      | refine ⟨_, h.rd 0 rfl _, ?_⟩
      | refine ⟨_, h.rd 1 rfl _, ?_⟩
      | refine h.st 0 rfl rfl fun _ h => ?_
      | refine h.st 1 rfl rfl fun _ h => ?_
      | refine ⟨_, fun _ => h.rd 0 rfl _, ?_⟩
      | refine ⟨_, fun _ => h.rd 1 rfl _, ?_⟩)
    refine ⟨_, _, _, _, _, _, h.rds 0 rfl rfl, ?_⟩
    refine copied_spec (p := list[j]) (h.ordt [3, 1, 2, 0] 4 (by decide) (by decide)) (fun H h => (hl Q' H hs (h.ordt [0] 4 (by decide) (by decide))).2 _ hp) (hb _ hp) fun Q2 p' H3 hs2 hin' hcore h => ⟨_, _, _, _, _, _, rfl, ?_⟩
    refine ⟨h.rd 1 rfl _, h.rd 1 rfl _, h.mp_update (α := Pk) (v := p') mt29 ko2 2 rfl fun H4 h => ⟨_, h.rd 1 rfl _, ?_⟩⟩
    rw [w64 (x := next + (j : Int) + 1) (by omega) (by omega), w64 (x := (j : Int) + 1) (by omega) (by omega)]
    refine h.st 1 rfl rfl fun H5 h => ⟨⟨j + 1, Q2, mset (next + j) p' m', rfl, hlt, hs.trans hs2, ?_, ?_, ?_, ?_⟩, by simp only; omega⟩
    · have hnone : mlook (next + (j : Int)) m' = none := mlook_none.2 fun hmem => by
        obtain ⟨q, hq, he⟩ := List.mem_map.1 hmem
        have := ok'.keys q hq; omega
      have hco : p'.agent = list[j].agent := by have := congrArg (fun c : Core => c.2.1) hcore; exact this
      have hg := hgood _ hp
      refine ⟨hm1, hm2, ?_, fun q hq => ?_, by have := ok'.next0; omega, fun q hq => ?_, fun q hq => ?_, nodup_mset ok'.nd⟩
      · rw [length_mset_new hnone]; push_cast; omega
      · rcases List.mem_cons.1 hq with rfl | hq
        · have := ok'.next0; simp only; omega
        · have := ok'.keys q (mem_mdel.1 hq).1; omega
      · rcases List.mem_cons.1 hq with rfl | hq
        · exact hin'
        · exact (ok'.ins q (mem_mdel.1 hq).1).sub hs2
      · rcases List.mem_cons.1 hq with rfl | hq
        · simp only; rw [hco]; unfold badP at hg; omega
        · exact ok'.ag q (mem_mdel.1 hq).1
    · have hnone : mlook (next + (j : Int)) m' = none := mlook_none.2 fun hmem => by
        obtain ⟨q, hq, he⟩ := List.mem_map.1 hmem
        have := ok'.keys q hq; omega
      rw [length_mset_new hnone]; push_cast; omega
    · rw [← hput, List.drop_eq_getElem_cons hlt]
      show _ = putC (next + j + 1) (list.drop (j + 1)) (mset (next + j) list[j].core (cores m'))
      have : cores (mset (next + (j : Int)) p' m') = mset (next + (j : Int)) list[j].core (cores m') := by
        unfold mset
        rw [← cores_del, ← hcore]; rfl
      rw [this]
      push_cast
      rw [Int.add_assoc]
    · have := h.ordt [1, 2, 0] 4 (by decide) (by decide)
      push_cast
      rw [← Int.add_assoc]
      exact this
  · obtain rfl : j = list.length := by have := of_decide_eq_false hc2; omega
    rw [List.drop_length] at hput
    exact k3 hgood hfit Q' m' H2 hs ok' hput h
end
end Go.Proofs.Ytfkapbggncejcaa
