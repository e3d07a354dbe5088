/-
  Numbers as bytes: both writers' contracts.
-/
import Derived.Test.YtomdcdfcdeaabaaRB
import Derived.Test.YtomdcdfcdeaabaaRC
set_option linter.unusedVariables false
set_option linter.unusedSimpArgs false
namespace Go.Nm
open Go
theorem u8_of (n : Nat) : IntKind.u8.wrap (n : Int) = ((n % 256 : Nat) : Int) := by
  simp only [IntKind.wrap, IntKind.bits, IntKind.signed]
  <;> (try simp) <;> (try omega)
theorem or8_all : ∀ n, n < 256 → (n ||| 128) = 128 + n % 128 := by decide +kernel
/-- The code's byte of a number that is not at its end. -/
theorem byte_more (n : Nat) : bitsV .or .u8 (IntKind.u8.wrap (n : Int)) 128 = ((128 + n % 128 : Nat) : Int) := by
  rw [u8_of]
  unfold bitsV
  have e1 : (BitVec.ofInt IntKind.u8.bits ((n % 256 : Nat) : Int)).toNat = n % 256 := by
    rw [BitVec.ofInt_natCast, BitVec.toNat_ofNat]
    exact Nat.mod_eq_of_lt (Nat.mod_lt _ (by decide))
  have e2 : (BitVec.ofInt IntKind.u8.bits (128 : Int)).toNat = 128 := by decide
  have : IntKind.u8.wrap (((n % 256) ||| 128 : Nat) : Int) = ((128 + n % 128 : Nat) : Int) := by
    rw [or8_all _ (Nat.mod_lt _ (by decide)), u8_of]
    omega
  show IntKind.u8.wrap ((BitVec.ofInt IntKind.u8.bits ((n % 256 : Nat) : Int) ||| BitVec.ofInt IntKind.u8.bits 128).toNat : Int) = _
  rw [BitVec.toNat_or, e1, e2, this]
theorem shift7 (n : Nat) : Int.fdiv (n : Int) (2 ^ (min (Int.toNat 7) (IntKind.u64.bits))) = ((n / 128 : Nat) : Int) := by
  show Int.fdiv (n : Int) 128 = _
  rw [Int.fdiv_eq_ediv_of_nonneg _ (by decide)]
  omega
end Go.Nm
namespace Go.Proofs.Ytomdcdfcdeaabaa
open Go Go.Nm Go.Proofs
section
variable {F L : List Assn} {H : Heap} {K : Value → Heap → Prop}

theorem uintB_len10 {u : Nat} (hu : u < 18446744073709551616) : (uintB u).length ≤ 10 := by
  have := uintB_len (w := u) (i := 0) (by simpa using hu) (by omega)
  omega

theorem put_spec {a : Option Addr} {c : Nat} {bs : List Int} {u : Nat} (h : SatL H (slA 5 1 a bs.length c (bs.map U8) :: F)) (hl : bs.length ≤ 1099511627776) (hu : u < 18446744073709551616)
    (k : ∀ a' c' H', SatL H' (slA 5 1 a' (bs ++ uintB u).length c' ((bs ++ uintB u).map U8) :: F) → K (.slice a' (bs ++ uintB u).length c') H') :
    CallF Try.prog 90 #[.slice a bs.length c, .int .u64 u] H K := by
  refine code_put.call ?_
  unfold code_put.code
  refine ⟨fun a' n' c' u' H' => ∃ (cs : List Int) (w : Nat), n' = cs.length ∧ u' = w ∧ w < 18446744073709551616 ∧ cs ++ uintB w = bs ++ uintB u ∧ SatL H' (slA 5 1 a' cs.length c' (cs.map U8) :: F), fun _ _ _ u _ => u.toNat,
    ⟨bs, u, rfl, rfl, hu, rfl, h⟩, ?_⟩
  rintro a1 n1 c1 u1 H1 ⟨cs, w, rfl, rfl, hw, he, h1⟩
  have hcl : cs.length ≤ 1099511627786 := by
    have := congrArg List.length he
    simp only [List.length_append] at this
    have := uintB_len10 hu
    omega
  unfold code_put.l1
  refine ⟨fun hc => ?_, fun hc => ?_⟩
  · have h128 : ¬ w < 128 := by simp at hc; omega
    rintro _ _ rfl rfl
    rw [byte_more, shift7]
    refine h1.append1 sl32 0 rfl (by rfl) (by rfl) (by omega) (by omega) fun a' c' H3 h3 => ⟨_, _, _, rfl, by decide, ?_, by dsimp only; omega⟩
    refine ⟨cs ++ [((128 + w % 128 : Nat) : Int)], w / 128, by simp, rfl, by omega, ?_, ?_⟩
    · rw [← he, uintB_ge h128, List.append_assoc, List.singleton_append]
    · rw [List.map_append, List.length_append]
      exact h3
  · have h128 : w < 128 := by simp at hc; omega
    rintro _ _ rfl rfl
    rw [u8_of]
    refine h1.append1 sl32 0 rfl (by rfl) (by rfl) (by omega) (by omega) fun a' c' H3 h3 => ⟨_, _, _, rfl, ?_⟩
    have := k a' c' H3
    rw [← he, uintB_lt h128, List.length_append] at this
    refine this ?_
    rw [List.map_append]
    rw [Nat.mod_eq_of_lt (by omega)] at h3
    exact h3

theorem R06Uint_spec {u : Nat} (h : SatL H F) (hu : u < 18446744073709551616)
    (k : ∀ a' c' H', SatL H' (slA 5 1 a' (uintB u).length c' ((uintB u).map U8) :: F) → K (.slice a' (uintB u).length c') H') :
    CallF Try.prog 70 #[.int .u64 u] H K := by
  refine R06_Uint.call ?_
  unfold R06_Uint.code
  rintro _ _ rfl rfl
  have h0 : SatL _ (slA 5 1 (some ⟨_, 0, none⟩) 0 0 [] :: _) := SatL.sl_pt (cs := []) (h.push (.cells #[] 5)) 0 0 rfl
  refine ⟨fun u' a' n' c' H' => ∃ (cs : List Int) (w : Nat), n' = cs.length ∧ u' = w ∧ w < 18446744073709551616 ∧ cs ++ uintB w = uintB u ∧ SatL H' (slA 5 1 a' cs.length c' (cs.map U8) :: F), fun u _ _ _ _ => u.toNat,
    ⟨[], u, rfl, rfl, hu, rfl, h0⟩, ?_⟩
  rintro u1 a1 n1 c1 H1 ⟨cs, w, rfl, rfl, hw, he, h1⟩
  have hcl : cs.length ≤ 10 := by
    have := congrArg List.length he
    simp only [List.length_append] at this
    have := uintB_len10 hu
    omega
  have et : Int.tmod (w : Int) 128 = ((w % 128 : Nat) : Int) := by rw [Int.tmod_eq_emod_of_nonneg (by omega)]; omega
  have ed : Int.tdiv (w : Int) 128 = ((w / 128 : Nat) : Int) := by rw [Int.tdiv_eq_ediv_of_nonneg (by omega)]; omega
  unfold R06_Uint.l1
  refine ⟨fun hc => ?_, fun hc => ?_⟩
  · have h128 : ¬ w < 128 := by simp at hc; omega
    refine ⟨by decide, ?_⟩
    rintro _ _ rfl rfl
    have eb : IntKind.u8.wrap (IntKind.u64.wrap (128 + (Int.tmod (w : Int) 128))) = ((128 + w % 128 : Nat) : Int) := by
      rw [et, u64w (by omega) (by omega), u8w (by omega) (by omega)]
      omega
    rw [eb, ed, u64w (by omega) (by omega)]
    refine h1.append1 sl32 0 rfl (by rfl) (by rfl) (by omega) (by omega) fun a' c' H3 h3 => ⟨_, _, _, rfl, by decide, ?_, by dsimp only; omega⟩
    refine ⟨cs ++ [((128 + w % 128 : Nat) : Int)], w / 128, by simp, rfl, by omega, ?_, ?_⟩
    · rw [← he, uintB_ge h128, List.append_assoc, List.singleton_append]
    · rw [List.map_append, List.length_append]
      exact h3
  · have h128 : w < 128 := by simp at hc; omega
    rintro _ _ rfl rfl
    rw [u8_of]
    refine h1.append1 sl32 0 rfl (by rfl) (by rfl) (by omega) (by omega) fun a' c' H3 h3 => ⟨_, _, _, rfl, ?_⟩
    have := k a' c' H3
    rw [← he, uintB_lt h128, List.length_append] at this
    refine this ?_
    rw [List.map_append]
    rw [Nat.mod_eq_of_lt (by omega)] at h3
    exact h3
end
end Go.Proofs.Ytomdcdfcdeaabaa
