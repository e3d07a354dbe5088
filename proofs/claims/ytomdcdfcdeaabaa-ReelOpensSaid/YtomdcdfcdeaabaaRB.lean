/-
  Sums of bytes: both functions' contracts.
-/
import Derived.Test.YtomdcdfcdeaabaaRA
import Derived.Test.YtomdcdfcdeaabaaT2
set_option linter.unusedVariables false
set_option linter.unusedSimpArgs false
namespace Go.Proofs.Ytomdcdfcdeaabaa
open Go Go.Nm Go.Proofs

theorem R07Sum_spec {H : Heap} {a : Option Addr} {c : Nat} {xs : List Int} (ha : rdS H a (xs.map U8)) (hl : xs.length ≤ 1099511627776) :
    CallQ Try.prog 91 #[.slice a xs.length c] H (.int .u32 (crcS xs)) := by
  unfold CallQ
  refine R07_Sum.call ?_
  unfold R07_Sum.code
  refine ⟨fun s i H' => H' = H ∧ ∃ k : Nat, i = k ∧ k ≤ xs.length ∧ s = (crcN 4294967295 (xs.take k) : Nat), fun _ i _ => xs.length - i.toNat, ⟨rfl, 0, rfl, Nat.zero_le _, rfl⟩, ?_⟩
  rintro s i H' ⟨rfl, k, rfl, hk, rfl⟩
  unfold R07_Sum.l3
  refine ⟨fun hc => ?_, fun hc => ?_⟩
  · have hlt : k < xs.length := by simpa using hc
    have h1 := ha.at hlt
    have hn : crcN 4294967295 (xs.take k) < 4294967296 := crcN_lt (by decide)
    have hx := xor_lt32 hn (u32n_in xs[k]).2
    refine ⟨⟨by omega, by omega⟩, _, _, h1.1, _, h1.2, ?_⟩
    rw [crc_byte hn]
    refine ⟨fun s i H2 => H2 = H' ∧ ∃ m : Nat, i = m ∧ m ≤ 8 ∧ s = (stepsC m (crcN 4294967295 (xs.take k) ^^^ u32n xs[k]) : Nat), fun _ i _ => 8 - i.toNat, ⟨rfl, 0, rfl, Nat.zero_le _, rfl⟩, ?_⟩
    rintro s1 i1 H2 ⟨rfl, m, rfl, hm, rfl⟩
    have hs := stepsC_lt hx m
    unfold R07_Sum.l2
    refine ⟨fun hc1 => ?_, fun hc1 => ?_⟩
    · have hm8 : m < 8 := by simp at hc1; omega
      have e1 : IntKind.i64.wrap ((m : Int) + 1) = ((m + 1 : Nat) : Int) := w64 (by omega) (by omega)
      refine ⟨by decide, by decide, fun Jn hJ => ⟨fun hb => hJ _ _ ?_, fun hb => hJ _ _ ?_⟩⟩
      · unfold R07_Sum.r1
        rw [step_ref1 hs (by simpa using hb), e1]
        exact ⟨⟨rfl, m + 1, rfl, by omega, rfl⟩, by dsimp only; omega⟩
      · unfold R07_Sum.r1
        rw [step_ref0 hs (by simpa using hb), e1]
        exact ⟨⟨rfl, m + 1, rfl, by omega, rfl⟩, by dsimp only; omega⟩
    · have hm8 : m = 8 := by simp at hc1; omega
      subst hm8
      have e1 : IntKind.i64.wrap ((k : Int) + 1) = ((k + 1 : Nat) : Int) := w64 (by omega) (by omega)
      rw [e1]
      refine ⟨⟨rfl, k + 1, rfl, by omega, ?_⟩, by dsimp only; omega⟩
      rw [crcN_take hlt]
      rfl
  · have hk2 : k = xs.length := by simp at hc; omega
    subst hk2
    rw [List.take_length, crc_end]
    exact ⟨rfl, rfl⟩

theorem flat_take {parts : List Fy} {j : Nat} (h : j < parts.length) : (parts.take (j + 1)).flatMap Fy.bs = (parts.take j).flatMap Fy.bs ++ parts[j].bs := by
  rw [List.take_succ_eq_append_getElem h, List.flatMap_append]
  simp

theorem Sum_spec {H : Heap} {a : Option Addr} {c : Nat} {parts : List Fy} (ha : rdS H a (parts.map encY)) (hp : ∀ y ∈ parts, rdS H y.a (y.bs.map U8)) (hl : parts.length ≤ 1099511627776)
    (hy : ∀ y ∈ parts, y.bs.length ≤ 1099511627776) : CallQ Try.prog 88 #[.slice a parts.length c] H (.int .u32 (crcS (parts.flatMap Fy.bs))) := by
  unfold CallQ
  refine crc_Sum.call ?_
  unfold crc_Sum.code
  refine ⟨fun s i H' => H' = H ∧ ∃ j : Nat, i = j ∧ j ≤ parts.length ∧ s = (crcN 4294967295 ((parts.take j).flatMap Fy.bs) : Nat), fun _ i _ => parts.length - i.toNat, ⟨rfl, 0, rfl, Nat.zero_le _, rfl⟩, ?_⟩
  rintro s i H' ⟨rfl, j, rfl, hj, rfl⟩
  unfold crc_Sum.l3
  refine ⟨fun hc => ?_, fun hc => ?_⟩
  · have hlt : j < parts.length := by simpa using hc
    have h1 := ha.at hlt
    have hq := hp _ (List.getElem_mem hlt)
    have hyl := hy _ (List.getElem_mem hlt)
    have ej : IntKind.i64.wrap ((j : Int) + 1) = ((j + 1 : Nat) : Int) := w64 (by omega) (by omega)
    have ef := flat_take hlt
    obtain ⟨y, ey⟩ : ∃ y, parts[j] = y := ⟨_, rfl⟩
    rw [ey] at h1 hq hyl ef
    refine ⟨⟨by omega, by omega⟩, _, _, h1.1, _, _, _, h1.2, ?_⟩
    refine ⟨fun s i H2 => H2 = H' ∧ ∃ k : Nat, i = k ∧ k ≤ y.bs.length ∧ s = (crcN (crcN 4294967295 ((parts.take j).flatMap Fy.bs)) (y.bs.take k) : Nat), fun _ i _ => y.bs.length - i.toNat, ⟨rfl, 0, rfl, Nat.zero_le _, rfl⟩, ?_⟩
    rintro s1 i1 H1 ⟨rfl, k, rfl, hk, rfl⟩
    have hn : crcN (crcN 4294967295 ((parts.take j).flatMap Fy.bs)) (y.bs.take k) < 4294967296 := crcN_lt (crcN_lt (by decide))
    unfold crc_Sum.l2
    refine ⟨fun hc => ?_, fun hc => ?_⟩
    · have hlk : k < y.bs.length := by simpa using hc
      have h2 := hq.at hlk
      have hx := xor_lt32 hn (u32n_in y.bs[k]).2
      refine ⟨⟨by omega, by omega⟩, _, _, h2.1, _, h2.2, ?_⟩
      rw [crc_byte hn]
      refine ⟨fun s i H2 => H2 = H1 ∧ ∃ m : Nat, i = m ∧ m ≤ 8 ∧ s = (stepsC m (crcN (crcN 4294967295 ((parts.take j).flatMap Fy.bs)) (y.bs.take k) ^^^ u32n y.bs[k]) : Nat), fun _ i _ => 8 - i.toNat, ⟨rfl, 0, rfl, Nat.zero_le _, rfl⟩, ?_⟩
      rintro s1 i1 H2 ⟨rfl, m, rfl, hm, rfl⟩
      have hs := stepsC_lt hx m
      unfold crc_Sum.l1
      refine ⟨fun hc1 => ?_, fun hc1 => ?_⟩
      · have hm8 : m < 8 := by simp at hc1; omega
        have e1 : IntKind.i64.wrap ((m : Int) + 1) = ((m + 1 : Nat) : Int) := w64 (by omega) (by omega)
        refine ⟨by decide, ?_⟩
        rw [step_code hs, e1]
        exact ⟨⟨rfl, m + 1, rfl, by omega, rfl⟩, by dsimp only; omega⟩
      · have hm8 : m = 8 := by simp at hc1; omega
        subst hm8
        have e1 : IntKind.i64.wrap ((k : Int) + 1) = ((k + 1 : Nat) : Int) := w64 (by omega) (by omega)
        rw [e1]
        refine ⟨⟨rfl, k + 1, rfl, by omega, ?_⟩, by dsimp only; omega⟩
        rw [crcN_take hlk]
        rfl
    · have hk2 : k = y.bs.length := by simp at hc; omega
      subst hk2
      rw [ej]
      refine ⟨⟨rfl, j + 1, rfl, by omega, ?_⟩, by dsimp only; omega⟩
      rw [ef, crcN_append, List.take_length]
  · have hk2 : j = parts.length := by simp at hc; omega
    subst hk2
    rw [List.take_length, crc_end]
    exact ⟨rfl, rfl⟩

end Go.Proofs.Ytomdcdfcdeaabaa
