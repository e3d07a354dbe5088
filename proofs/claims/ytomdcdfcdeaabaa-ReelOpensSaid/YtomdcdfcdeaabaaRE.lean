/-
  Numbers read: both readers' contracts.
-/
import Derived.Test.YtomdcdfcdeaabaaRD
set_option linter.unusedVariables false
set_option linter.unusedSimpArgs false
namespace Go.Nm
open Go
theorem or64_add {a m p : Nat} (ha : a < 2 ^ p) (h : a + m * 2 ^ p < 18446744073709551616) : bitsV .or .u64 (a : Int) ((m * 2 ^ p : Nat) : Int) = ((a + m * 2 ^ p : Nat) : Int) := by
  have h1 : a < 18446744073709551616 := by omega
  have h2 : m * 2 ^ p < 18446744073709551616 := by omega
  have e1 : (BitVec.ofInt IntKind.u64.bits (a : Int)).toNat = a := by
    rw [BitVec.ofInt_natCast, BitVec.toNat_ofNat]; exact Nat.mod_eq_of_lt h1
  have e2 : (BitVec.ofInt IntKind.u64.bits ((m * 2 ^ p : Nat) : Int)).toNat = m * 2 ^ p := by
    rw [BitVec.ofInt_natCast, BitVec.toNat_ofNat]; exact Nat.mod_eq_of_lt h2
  have e3 : a ||| m * 2 ^ p = a + m * 2 ^ p := by
    rw [Nat.mul_comm m, Nat.or_comm, ← Nat.two_pow_add_eq_or_of_lt ha, Nat.add_comm]
  show IntKind.u64.wrap ((BitVec.ofInt IntKind.u64.bits (a : Int) ||| BitVec.ofInt IntKind.u64.bits ((m * 2 ^ p : Nat) : Int)).toNat : Int) = _
  rw [BitVec.toNat_or, e1, e2, e3, u64w (by omega) (by omega)]
/-- A byte's part of a number. -/
theorem part64 {c : Int} {i : Nat} (h0 : 0 ≤ c) (h1 : c < 256) (hi : i ≤ 9) (h9 : i = 9 → c ≤ 1) :
    IntKind.u64.wrap ((IntKind.u64.wrap (Int.tmod c 128)) * 2 ^ (min (7 * i) 64)) = ((c.toNat % 128 * 2 ^ (7 * i) : Nat) : Int) ∧ c.toNat % 128 * 2 ^ (7 * i) + 2 ^ (7 * i) ≤ 18446744073709551616 := by
  have em : Int.tmod c 128 = ((c.toNat % 128 : Nat) : Int) := by rw [Int.tmod_eq_emod_of_nonneg h0]; omega
  have hb : c.toNat % 128 * 2 ^ (7 * i) + 2 ^ (7 * i) ≤ 18446744073709551616 := by
    have e : c.toNat % 128 * 2 ^ (7 * i) + 2 ^ (7 * i) = (c.toNat % 128 + 1) * 2 ^ (7 * i) := by rw [Nat.add_mul, Nat.one_mul]
    rw [e]
    by_cases h : i = 9
    · have := h9 h
      subst h
      calc (c.toNat % 128 + 1) * 2 ^ (7 * 9) ≤ 2 * 2 ^ (7 * 9) := Nat.mul_le_mul_right _ (by omega)
        _ = 18446744073709551616 := by decide
    · calc (c.toNat % 128 + 1) * 2 ^ (7 * i) ≤ 128 * 2 ^ (7 * 8) := Nat.mul_le_mul (by omega) (Nat.pow_le_pow_right (by decide) (by omega))
        _ ≤ 18446744073709551616 := by decide
  refine ⟨?_, hb⟩
  have hp : 0 < 2 ^ (7 * i) := Nat.two_pow_pos _
  rw [em, u64w (x := ((c.toNat % 128 : Nat) : Int)) (by omega) (by omega), Nat.min_eq_left (by omega)]
  have : ((c.toNat % 128 : Nat) : Int) * 2 ^ (7 * i) = ((c.toNat % 128 * 2 ^ (7 * i) : Nat) : Int) := by
    rw [Int.natCast_mul, Int.natCast_pow]; rfl
  rw [this, u64w (by omega) (by omega)]

def firV : UR → Value
  | .ok u n => .tuple #[.int .u64 u, .int .i64 n, .int .i64 0]
  | .form => .tuple #[.int .u64 0, .int .i64 0, .int .i64 10]
  | .ended => .tuple #[.int .u64 0, .int .i64 0, .int .i64 15]
/-- A step of reading. -/
inductive RStep (bs : List Int) (k acc : Nat) : Prop where
  | fin (h : bs.length ≤ k) (e : rdU acc k (bs.drop k) = .ended)
  | go (h : k < bs.length) (c : Int) (hc : bs[k] = c) (h0 : 0 ≤ c) (h1 : c < 256) (hf : ¬ ((c = 0 ∧ 0 < k) ∨ (1 < c ∧ k = 9)))
      (e1 : c < 128 → rdU acc k (bs.drop k) = .ok (acc + c.toNat % 128 * 2 ^ (7 * k)) (k + 1))
      (e2 : ¬ c < 128 → rdU acc k (bs.drop k) = rdU (acc + c.toNat % 128 * 2 ^ (7 * k)) (k + 1) (bs.drop (k + 1)))
  | bad (h : k < bs.length) (c : Int) (hc : bs[k] = c) (hf : (c = 0 ∧ 0 < k) ∨ (1 < c ∧ k = 9)) (e : rdU acc k (bs.drop k) = .form)
theorem rstep {bs : List Int} (hb : isBytes bs) (k acc : Nat) : RStep bs k acc := by
  rcases Nat.lt_or_ge k bs.length with h | h
  · have hd : bs.drop k = bs[k] :: bs.drop (k + 1) := List.drop_eq_getElem_cons h
    have hx := hb _ (List.getElem_mem h)
    by_cases hf : (bs[k] = 0 ∧ 0 < k) ∨ (1 < bs[k] ∧ k = 9)
    · exact .bad h _ rfl hf (by rw [hd, rdU, if_pos hf])
    · refine .go h _ rfl hx.1 hx.2 hf (fun h1 => ?_) (fun h1 => ?_)
      · rw [hd, rdU, if_neg hf, if_pos h1]
      · rw [hd, rdU, if_neg hf, if_neg h1]
  · exact .fin h (by rw [List.drop_eq_nil_of_le h]; rfl)
end Go.Nm
namespace Go.Proofs.Ytomdcdfcdeaabaa
open Go Go.Nm Go.Proofs

theorem first_spec {H : Heap} {a : Option Addr} {c : Nat} {bs : List Int} (ha : rdS H a (bs.map U8)) (hb : isBytes bs) (hl : bs.length ≤ 1099511627776) :
    CallQ Try.prog 113 #[.slice a bs.length c] H (firV (rdU 0 0 bs)) := by
  unfold CallQ
  refine code_first.call ?_
  unfold code_first.code
  refine ⟨fun u i H' => H' = H ∧ ∃ k acc : Nat, i = k ∧ u = acc ∧ k ≤ 9 ∧ k ≤ bs.length ∧ acc < 2 ^ (7 * k) ∧ rdU acc k (bs.drop k) = rdU 0 0 bs, fun _ i _ => bs.length - i.toNat, ⟨rfl, 0, 0, rfl, rfl, by decide, Nat.zero_le _, by decide, rfl⟩, ?_⟩
  rintro u i H' ⟨rfl, k, acc, rfl, rfl, h9, hk, hacc, he⟩
  unfold code_first.l1
  refine ⟨fun hc => ?_, fun hc => ?_⟩
  · have hlt : k < bs.length := by simpa using hc
    have h1 := ha.at hlt
    refine ⟨⟨by omega, by omega⟩, _, _, h1.1, _, h1.2, ?_⟩
    have e7 : IntKind.i64.wrap (7 * (k : Int)) = ((7 * k : Nat) : Int) := by rw [w64 (by omega) (by omega)]; omega
    have ek : IntKind.i64.wrap ((k : Int) + 1) = ((k + 1 : Nat) : Int) := w64 (by omega) (by omega)
    rcases rstep hb k acc with ⟨h, _⟩ | ⟨h, x, hx, h0, h1', hf, e1, e2⟩ | ⟨h, x, hx, hf, e⟩
    · omega
    · rw [hx]
      have hp := part64 (c := x) (i := k) h0 h1' h9 (fun e9 => by
        rcases Int.lt_or_le 1 x with h2 | h2
        · exact absurd (Or.inr ⟨h2, e9⟩) hf
        · exact h2)
      refine ⟨fun hb1 => ?_, fun _ => ⟨by decide, by rw [e7]; omega, fun hb2 => ?_, fun hb2 => ?_⟩⟩
      · exfalso
        apply hf
        simp only [Bool.or_eq_true, Bool.and_eq_true, decide_eq_true_eq] at hb1
        omega
      · rw [e7, ek, Int.toNat_natCast]
        show _ = _ ∧ _
        have hp1 : IntKind.u64.wrap (IntKind.u64.wrap (Int.tmod x 128) * 2 ^ (min (7 * k) IntKind.u64.bits)) = ((x.toNat % 128 * 2 ^ (7 * k) : Nat) : Int) := hp.1
        rw [hp1, or64_add hacc (by omega), ← he, e1 (by simpa using hb2)]
        exact ⟨rfl, rfl⟩
      · rw [e7, ek, Int.toNat_natCast]
        have hp1 : IntKind.u64.wrap (IntKind.u64.wrap (Int.tmod x 128) * 2 ^ (min (7 * k) IntKind.u64.bits)) = ((x.toNat % 128 * 2 ^ (7 * k) : Nat) : Int) := hp.1
        have hge : ¬ x < 128 := by simpa using hb2
        rw [hp1, or64_add hacc (by omega)]
        have k9 : k ≠ 9 := fun e9 => hf (Or.inr ⟨by omega, e9⟩)
        refine ⟨⟨rfl, k + 1, _, rfl, rfl, by omega, by omega, ?_, ?_⟩, by dsimp only; omega⟩
        · calc acc + x.toNat % 128 * 2 ^ (7 * k) < 2 ^ (7 * k) + x.toNat % 128 * 2 ^ (7 * k) := by omega
            _ = (x.toNat % 128 + 1) * 2 ^ (7 * k) := by rw [Nat.add_mul, Nat.one_mul, Nat.add_comm]
            _ ≤ 128 * 2 ^ (7 * k) := Nat.mul_le_mul_right _ (by omega)
            _ = 2 ^ (7 * (k + 1)) := by rw [show 7 * (k + 1) = 7 + 7 * k by omega, Nat.pow_add]
        · rw [← he, e2 hge]
    · rw [hx]
      refine ⟨fun _ => ?_, fun hb1 => ?_⟩
      · rw [← he, e]
        exact ⟨rfl, rfl⟩
      · exfalso
        simp only [Bool.or_eq_false_iff, Bool.and_eq_false_iff, decide_eq_false_iff_not] at hb1
        omega
  · have hk2 : bs.length ≤ k := by simp at hc; omega
    rcases rstep hb k acc with ⟨h, e⟩ | ⟨h, _⟩ | ⟨h, _⟩
    · rw [← he, e]
      exact ⟨rfl, rfl⟩
    · omega
    · omega

def cntR (most : Int) : UR → UR
  | .ok u n => if (max most 0 : Int) < u then .form else .ok u n
  | r => r
/-- What count answers. -/
def cntV (most : Int) : UR → Value
  | .ok u n => if max most 0 < (u : Int) then .tuple #[.int .i64 0, .int .i64 0, .int .i64 17] else .tuple #[.int .i64 u, .int .i64 n, .int .i64 0]
  | .form => .tuple #[.int .i64 0, .int .i64 0, .int .i64 10]
  | .ended => .tuple #[.int .i64 0, .int .i64 0, .int .i64 15]
theorem count_spec {H : Heap} {a : Option Addr} {c : Nat} {bs : List Int} {most : Int} (ha : rdS H a (bs.map U8)) (hb : isBytes bs) (hl : bs.length ≤ 1099511627776) (hm : wf64 most) :
    CallQ Try.prog 92 #[.slice a bs.length c, .int .i64 most] H (cntV most (rdU 0 0 bs)) := by
  unfold CallQ
  refine code_count.call ?_
  unfold code_count.code
  have h1 := first_spec (c := c) ha hb hl
  have ew : IntKind.u64.wrap (if 0 > most then 0 else most) = max most 0 := by
    unfold wf64 at hm
    split <;> rw [u64w (by omega) (by omega)] <;> omega
  rw [ew]
  cases hr : rdU 0 0 bs with
  | ok u n =>
    rw [hr] at h1
    refine ⟨_, _, _, h1, (fun hf => by cases hf), fun _ => ⟨fun hc => ?_, fun hc => ?_⟩⟩
    · have hlt : max most 0 < (u : Int) := by simpa using hc
      unfold cntV
      dsimp only
      rw [if_pos hlt]
      exact ⟨rfl, rfl⟩
    · have hle : ¬ max most 0 < (u : Int) := by simpa using hc
      unfold cntV
      unfold wf64 at hm
      dsimp only
      rw [if_neg hle, w64 (by omega) (by omega)]
      exact ⟨rfl, rfl⟩
  | form =>
    rw [hr] at h1
    exact ⟨_, _, _, h1, fun _ => ⟨rfl, rfl⟩, (fun hf => by cases hf)⟩
  | ended =>
    rw [hr] at h1
    exact ⟨_, _, _, h1, fun _ => ⟨rfl, rfl⟩, (fun hf => by cases hf)⟩

section
variable {F L : List Assn} {H : Heap} {K : Value → Heap → Prop}
theorem Uints1_spec {a : Option Addr} {c : Nat} {u : Nat} (h : SatL H F) (ha : ∀ H, SatL H F → rdS H a [.int .u64 u]) (hu : u < 18446744073709551616)
    (k : ∀ a' c' H', SatL H' (slA 5 1 a' (uintB u).length c' ((uintB u).map U8) :: F) → K (.slice a' (uintB u).length c') H') :
    CallF Try.prog 68 #[.slice a 1 c] H K := by
  refine code_Uints.call ?_
  unfold code_Uints.code
  refine ⟨fun a' n' c' i H' => (i = 0 ∧ n' = 0 ∧ c' = 0 ∧ a' = none ∧ SatL H' F) ∨ (i = 1 ∧ n' = (uintB u).length ∧ SatL H' (slA 5 1 a' (uintB u).length c' ((uintB u).map U8) :: F)), fun _ _ _ i _ => 1 - i.toNat,
    .inl ⟨rfl, rfl, rfl, rfl, h⟩, ?_⟩
  rintro a1 n1 c1 i H1 (⟨rfl, rfl, rfl, rfl, h1⟩ | ⟨rfl, rfl, h1⟩)
  · unfold code_Uints.l1
    refine ⟨fun _ => ?_, (fun hf => by cases hf)⟩
    have hr := (ha _ h1) 0 _ rfl
    refine ⟨by decide, _, _, hr.1, _, hr.2, ?_⟩
    have h2 : SatL H1 (slA 5 1 none ([] : List Int).length 0 (([] : List Int).map U8) :: F) := h1.sl_nil 5 1
    refine put_spec (bs := []) h2 (by simp) hu fun a' c' H' h3 => ⟨_, _, _, rfl, .inr ⟨rfl, rfl, h3⟩, by dsimp only; decide⟩
  · unfold code_Uints.l1
    exact ⟨(fun hf => by cases hf), fun _ => k _ _ _ h1⟩
end
end Go.Proofs.Ytomdcdfcdeaabaa
