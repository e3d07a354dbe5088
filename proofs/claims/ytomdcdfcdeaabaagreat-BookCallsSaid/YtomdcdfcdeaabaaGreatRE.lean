/-
  Sums of bytes, plainly: the code's step and the reference's are one. Sums of bytes: both functions' contracts. Numbers as bytes, plainly: written, and read. Numbers as bytes: both writers' contracts. Numbers read: both readers' contracts.
-/
import Derived.Test.YtomdcdfcdeaabaaGreatD8
import Derived.Test.YtomdcdfcdeaabaaGreatT2
set_option linter.unusedVariables false
set_option linter.unusedSimpArgs false
namespace Go.Nm
open Go

theorem u32w {x : Int} (h1 : 0 ≤ x) (h2 : x < 4294967296) : IntKind.u32.wrap x = x := by
  simp only [IntKind.wrap, IntKind.bits, IntKind.signed] at *
  first | omega | (simp; omega)
theorem u8w {x : Int} (h1 : 0 ≤ x) (h2 : x < 256) : IntKind.u8.wrap x = x := by
  simp only [IntKind.wrap, IntKind.bits, IntKind.signed] at *
  first | omega | (simp; omega)
theorem u64w {x : Int} (h1 : 0 ≤ x) (h2 : x < 18446744073709551616) : IntKind.u64.wrap x = x := by
  simp only [IntKind.wrap, IntKind.bits, IntKind.signed] at *
  first | omega | (simp; omega)

theorem u32_of {n : Nat} (h : n < 4294967296) : (BitVec.ofInt IntKind.u32.bits (n : Int)).toNat = n := by
  rw [BitVec.ofInt_natCast, BitVec.toNat_ofNat]
  exact Nat.mod_eq_of_lt h
theorem xor32 {n m : Nat} (hn : n < 4294967296) (hm : m < 4294967296) : bitsV .xor .u32 (n : Int) (m : Int) = ((n ^^^ m : Nat) : Int) := by
  unfold bitsV
  rw [BitVec.toNat_xor, u32_of hn, u32_of hm]
  have : n ^^^ m < 2 ^ 32 := Nat.xor_lt_two_pow hn hm
  exact u32w (by omega) (by omega)
theorem and32 {n m : Nat} (hn : n < 4294967296) (hm : m < 4294967296) : bitsV .and .u32 (n : Int) (m : Int) = ((n &&& m : Nat) : Int) := by
  unfold bitsV
  rw [BitVec.toNat_and, u32_of hn, u32_of hm]
  have : n &&& m < 2 ^ 32 := Nat.and_lt_two_pow n hm
  exact u32w (by omega) (by omega)

def stepC (n : Nat) : Nat := if n % 2 = 1 then (n / 2) ^^^ 3988292384 else n / 2
theorem stepC_lt {n : Nat} (h : n < 4294967296) : stepC n < 4294967296 := by
  unfold stepC
  split
  · have : (n / 2) ^^^ 3988292384 < 2 ^ 32 := Nat.xor_lt_two_pow (by omega) (by decide)
    omega
  · omega
def stepsC : Nat → Nat → Nat
  | 0, n => n
  | k + 1, n => stepC (stepsC k n)
theorem stepsC_lt {n : Nat} (h : n < 4294967296) : ∀ k, stepsC k n < 4294967296
  | 0 => h
  | k + 1 => stepC_lt (stepsC_lt h k)
def u32n (v : Int) : Nat := (IntKind.u32.wrap v).toNat
theorem u32n_in (v : Int) : (u32n v : Int) = IntKind.u32.wrap v ∧ u32n v < 4294967296 := by
  unfold u32n
  simp only [IntKind.wrap, IntKind.bits, IntKind.signed]
  first | omega | (simp; omega)
def byteC (n : Nat) (v : Int) : Nat := stepsC 8 (n ^^^ u32n v)
theorem xor_lt32 {n m : Nat} (hn : n < 4294967296) (hm : m < 4294967296) : n ^^^ m < 4294967296 := by
  have : n ^^^ m < 2 ^ 32 := Nat.xor_lt_two_pow hn hm
  omega
theorem byteC_lt {n : Nat} {v : Int} (h : n < 4294967296) : byteC n v < 4294967296 := stepsC_lt (xor_lt32 h (u32n_in v).2) 8
/-- Are these bytes? -/
def isBytes (l : List Int) : Prop := ∀ x ∈ l, 0 ≤ x ∧ x < 256
def crcN (n : Nat) (l : List Int) : Nat := l.foldl byteC n
theorem crcN_lt : ∀ {l : List Int} {n : Nat}, n < 4294967296 → crcN n l < 4294967296
  | [], n, h => h
  | v :: r, n, h => crcN_lt (l := r) (byteC_lt h)
def crcS (l : List Int) : Int := ((4294967295 ^^^ crcN 4294967295 l : Nat) : Int)
theorem crcS_in (l : List Int) : 0 ≤ crcS l ∧ crcS l < 4294967296 := by
  have := xor_lt32 (n := 4294967295) (by decide) (crcN_lt (l := l) (n := 4294967295) (by decide))
  unfold crcS
  omega
theorem crc_end (l : List Int) : bitsV .xor .u32 IntKind.u32.max (crcN 4294967295 l : Int) = crcS l := by
  rw [show IntKind.u32.max = ((4294967295 : Nat) : Int) from rfl, xor32 (by decide) (crcN_lt (by decide))]
  rfl
theorem crc_byte {n : Nat} (h : n < 4294967296) (v : Int) : bitsV .xor .u32 (n : Int) (IntKind.u32.wrap v) = ((n ^^^ u32n v : Nat) : Int) := by
  rw [← (u32n_in v).1, xor32 h (u32n_in v).2]
theorem crcN_append (n : Nat) (l r : List Int) : crcN n (l ++ r) = crcN (crcN n l) r := List.foldl_append ..
theorem crcN_take {l : List Int} {n i : Nat} (h : i < l.length) : crcN n (l.take (i + 1)) = byteC (crcN n (l.take i)) l[i] := by
  rw [← List.take_append_getElem h, crcN_append]
  rfl

/-- The code's step. -/
theorem step_code {n : Nat} (h : n < 4294967296) :
    bitsV .xor .u32 (Int.fdiv (n : Int) (2 ^ (min (Int.toNat 1) (IntKind.u32.bits)))) (bitsV .and .u32 (IntKind.u32.wrap (0 - (bitsV .and .u32 (n : Int) 1))) 3988292384) = (stepC n : Int) := by
  have e1 : Int.fdiv (n : Int) (2 ^ (min (Int.toNat 1) (IntKind.u32.bits))) = ((n / 2 : Nat) : Int) := by
    show Int.fdiv (n : Int) 2 = _
    rw [Int.fdiv_eq_ediv_of_nonneg _ (by decide)]
    omega
  have e2 : bitsV .and .u32 (n : Int) 1 = ((n % 2 : Nat) : Int) := by
    rw [show (1 : Int) = ((1 : Nat) : Int) from rfl, and32 h (by decide), Nat.and_one_is_mod]
  rw [e1, e2]
  unfold stepC
  rcases Nat.mod_two_eq_zero_or_one n with h0 | h0
  · rw [h0, if_neg (by decide)]
    have : bitsV .and .u32 (IntKind.u32.wrap (0 - ((0 : Nat) : Int))) 3988292384 = ((0 : Nat) : Int) := by decide
    rw [this, xor32 (by omega) (by decide), Nat.xor_zero]
  · rw [h0, if_pos rfl]
    have : bitsV .and .u32 (IntKind.u32.wrap (0 - ((1 : Nat) : Int))) 3988292384 = ((3988292384 : Nat) : Int) := by decide
    rw [this, xor32 (by omega) (by decide)]
/-- The reference's. -/
theorem step_ref1 {n : Nat} (h : n < 4294967296) (h1 : Int.tmod (n : Int) 2 = 1) : bitsV .xor .u32 (IntKind.u32.wrap (Int.tdiv (n : Int) 2)) 3988292384 = (stepC n : Int) := by
  have e1 : Int.tdiv (n : Int) 2 = ((n / 2 : Nat) : Int) := by rw [Int.tdiv_eq_ediv_of_nonneg (by omega)]; omega
  have e2 : n % 2 = 1 := by rw [Int.tmod_eq_emod_of_nonneg (by omega)] at h1; omega
  rw [e1, u32w (by omega) (by omega)]
  unfold stepC
  rw [if_pos e2, show (3988292384 : Int) = ((3988292384 : Nat) : Int) from rfl, xor32 (by omega) (by decide)]
theorem step_ref0 {n : Nat} (h : n < 4294967296) (h1 : Int.tmod (n : Int) 2 ≠ 1) : IntKind.u32.wrap (Int.tdiv (n : Int) 2) = (stepC n : Int) := by
  have e1 : Int.tdiv (n : Int) 2 = ((n / 2 : Nat) : Int) := by rw [Int.tdiv_eq_ediv_of_nonneg (by omega)]; omega
  have e2 : ¬ n % 2 = 1 := by rw [Int.tmod_eq_emod_of_nonneg (by omega)] at h1; omega
  rw [e1, u32w (by omega) (by omega)]
  unfold stepC
  rw [if_neg e2]

end Go.Nm
namespace Go.Proofs.YtomdcdfcdeaabaaGreat
open Go Go.Nm Go.Proofs

theorem R07Sum_spec {H : Heap} {a : Option Addr} {c : Nat} {xs : List Int} (ha : rdS H a (xs.map U8)) (hl : xs.length ≤ 1099511627776) :
    CallQ Tryz.prog 99 #[.slice a xs.length c] H (.int .u32 (crcS xs)) := by
  unfold CallQ
  refine R07_Sum.call ?_
  unfold R07_Sum.code
  refine ⟨fun s i H' => H' = H ∧ ∃ k : Nat, i = k ∧ k ≤ xs.length ∧ s = (crcN 4294967295 (xs.take k) : Nat), fun _ i _ => xs.length - i.toNat, ⟨rfl, 0, rfl, Nat.zero_le _, rfl⟩, ?_⟩
  rintro s i H' ⟨rfl, k, rfl, hk, rfl⟩
  unfold R07_Sum.l3
  refine ⟨fun hc => ?_, fun hc => ?_⟩
  · have hlt : k < xs.length := by simpa using hc
    have h1 := ha.at hlt
    have hn : crcN 4294967295 (xs.take k) < 4294967296 := crcN_lt (by decide)
    have hx := xor_lt32 hn (u32n_in xs[k]).2
    refine ⟨⟨by omega, by omega⟩, _, _, h1.1, _, h1.2, ?_⟩
    rw [crc_byte hn]
    refine ⟨fun s i H2 => H2 = H' ∧ ∃ m : Nat, i = m ∧ m ≤ 8 ∧ s = (stepsC m (crcN 4294967295 (xs.take k) ^^^ u32n xs[k]) : Nat), fun _ i _ => 8 - i.toNat, ⟨rfl, 0, rfl, Nat.zero_le _, rfl⟩, ?_⟩
    rintro s1 i1 H2 ⟨rfl, m, rfl, hm, rfl⟩
    have hs := stepsC_lt hx m
    unfold R07_Sum.l2
    refine ⟨fun hc1 => ?_, fun hc1 => ?_⟩
    · have hm8 : m < 8 := by simp at hc1; omega
      have e1 : IntKind.i64.wrap ((m : Int) + 1) = ((m + 1 : Nat) : Int) := w64 (by omega) (by omega)
      refine ⟨by decide, by decide, fun Jn hJ => ⟨fun hb => hJ _ _ ?_, fun hb => hJ _ _ ?_⟩⟩
      · unfold R07_Sum.r1
        rw [step_ref1 hs (by simpa using hb), e1]
        exact ⟨⟨rfl, m + 1, rfl, by omega, rfl⟩, by dsimp only; omega⟩
      · unfold R07_Sum.r1
        rw [step_ref0 hs (by simpa using hb), e1]
        exact ⟨⟨rfl, m + 1, rfl, by omega, rfl⟩, by dsimp only; omega⟩
    · have hm8 : m = 8 := by simp at hc1; omega
      subst hm8
      have e1 : IntKind.i64.wrap ((k : Int) + 1) = ((k + 1 : Nat) : Int) := w64 (by omega) (by omega)
      rw [e1]
      refine ⟨⟨rfl, k + 1, rfl, by omega, ?_⟩, by dsimp only; omega⟩
      rw [crcN_take hlt]
      rfl
  · have hk2 : k = xs.length := by simp at hc; omega
    subst hk2
    rw [List.take_length, crc_end]
    exact ⟨rfl, rfl⟩

theorem flat_take {parts : List Fy} {j : Nat} (h : j < parts.length) : (parts.take (j + 1)).flatMap Fy.bs = (parts.take j).flatMap Fy.bs ++ parts[j].bs := by
  rw [List.take_succ_eq_append_getElem h, List.flatMap_append]
  simp

theorem Sum_spec {H : Heap} {a : Option Addr} {c : Nat} {parts : List Fy} (ha : rdS H a (parts.map encY)) (hp : ∀ y ∈ parts, rdS H y.a (y.bs.map U8)) (hl : parts.length ≤ 1099511627776)
    (hy : ∀ y ∈ parts, y.bs.length ≤ 1099511627776) : CallQ Tryz.prog 92 #[.slice a parts.length c] H (.int .u32 (crcS (parts.flatMap Fy.bs))) := by
  unfold CallQ
  refine crc_Sum.call ?_
  unfold crc_Sum.code
  refine ⟨fun s i H' => H' = H ∧ ∃ j : Nat, i = j ∧ j ≤ parts.length ∧ s = (crcN 4294967295 ((parts.take j).flatMap Fy.bs) : Nat), fun _ i _ => parts.length - i.toNat, ⟨rfl, 0, rfl, Nat.zero_le _, rfl⟩, ?_⟩
  rintro s i H' ⟨rfl, j, rfl, hj, rfl⟩
  unfold crc_Sum.l3
  refine ⟨fun hc => ?_, fun hc => ?_⟩
  · have hlt : j < parts.length := by simpa using hc
    have h1 := ha.at hlt
    have hq := hp _ (List.getElem_mem hlt)
    have hyl := hy _ (List.getElem_mem hlt)
    have ej : IntKind.i64.wrap ((j : Int) + 1) = ((j + 1 : Nat) : Int) := w64 (by omega) (by omega)
    have ef := flat_take hlt
    obtain ⟨y, ey⟩ : ∃ y, parts[j] = y := ⟨_, rfl⟩
    rw [ey] at h1 hq hyl ef
    refine ⟨⟨by omega, by omega⟩, _, _, h1.1, _, _, _, h1.2, ?_⟩
    refine ⟨fun s i H2 => H2 = H' ∧ ∃ k : Nat, i = k ∧ k ≤ y.bs.length ∧ s = (crcN (crcN 4294967295 ((parts.take j).flatMap Fy.bs)) (y.bs.take k) : Nat), fun _ i _ => y.bs.length - i.toNat, ⟨rfl, 0, rfl, Nat.zero_le _, rfl⟩, ?_⟩
    rintro s1 i1 H1 ⟨rfl, k, rfl, hk, rfl⟩
    have hn : crcN (crcN 4294967295 ((parts.take j).flatMap Fy.bs)) (y.bs.take k) < 4294967296 := crcN_lt (crcN_lt (by decide))
    unfold crc_Sum.l2
    refine ⟨fun hc => ?_, fun hc => ?_⟩
    · have hlk : k < y.bs.length := by simpa using hc
      have h2 := hq.at hlk
      have hx := xor_lt32 hn (u32n_in y.bs[k]).2
      refine ⟨⟨by omega, by omega⟩, _, _, h2.1, _, h2.2, ?_⟩
      rw [crc_byte hn]
      refine ⟨fun s i H2 => H2 = H1 ∧ ∃ m : Nat, i = m ∧ m ≤ 8 ∧ s = (stepsC m (crcN (crcN 4294967295 ((parts.take j).flatMap Fy.bs)) (y.bs.take k) ^^^ u32n y.bs[k]) : Nat), fun _ i _ => 8 - i.toNat, ⟨rfl, 0, rfl, Nat.zero_le _, rfl⟩, ?_⟩
      rintro s1 i1 H2 ⟨rfl, m, rfl, hm, rfl⟩
      have hs := stepsC_lt hx m
      unfold crc_Sum.l1
      refine ⟨fun hc1 => ?_, fun hc1 => ?_⟩
      · have hm8 : m < 8 := by simp at hc1; omega
        have e1 : IntKind.i64.wrap ((m : Int) + 1) = ((m + 1 : Nat) : Int) := w64 (by omega) (by omega)
        refine ⟨by decide, ?_⟩
        rw [step_code hs, e1]
        exact ⟨⟨rfl, m + 1, rfl, by omega, rfl⟩, by dsimp only; omega⟩
      · have hm8 : m = 8 := by simp at hc1; omega
        subst hm8
        have e1 : IntKind.i64.wrap ((k : Int) + 1) = ((k + 1 : Nat) : Int) := w64 (by omega) (by omega)
        rw [e1]
        refine ⟨⟨rfl, k + 1, rfl, by omega, ?_⟩, by dsimp only; omega⟩
        rw [crcN_take hlk]
        rfl
    · have hk2 : k = y.bs.length := by simp at hc; omega
      subst hk2
      rw [ej]
      refine ⟨⟨rfl, j + 1, rfl, by omega, ?_⟩, by dsimp only; omega⟩
      rw [ef, crcN_append, List.take_length]
  · have hk2 : j = parts.length := by simp at hc; omega
    subst hk2
    rw [List.take_length, crc_end]
    exact ⟨rfl, rfl⟩

end Go.Proofs.YtomdcdfcdeaabaaGreat
namespace Go.Nm
open Go

/-- A number's bytes. -/
def uintB (u : Nat) : List Int := if h : u < 128 then [(u : Int)] else ((128 + u % 128 : Nat) : Int) :: uintB (u / 128)
termination_by u
decreasing_by omega
theorem uintB_lt {u : Nat} (h : u < 128) : uintB u = [(u : Int)] := by rw [uintB, dif_pos h]
theorem uintB_ge {u : Nat} (h : ¬ u < 128) : uintB u = ((128 + u % 128 : Nat) : Int) :: uintB (u / 128) := by rw [uintB, dif_neg h]
theorem uintB_bytes (u : Nat) : isBytes (uintB u) := by
  induction u using Nat.strongRecOn with
  | _ u ih =>
    by_cases h : u < 128
    · rw [uintB_lt h]
      intro x hx
      rw [List.mem_singleton] at hx
      omega
    · rw [uintB_ge h]
      intro x hx
      rcases List.mem_cons.1 hx with rfl | hx
      · omega
      · exact ih (u / 128) (by omega) x hx
theorem uintB_pos (u : Nat) : 0 < (uintB u).length := by
  by_cases h : u < 128
  · rw [uintB_lt h]; exact Nat.zero_lt_one
  · rw [uintB_ge h]; simp
/-- How a reading ends. -/
inductive UR where
  | ok (u : Nat) (size : Nat)
  | form
  | ended
  deriving DecidableEq
def rdU : Nat → Nat → List Int → UR
  | _, _, [] => .ended
  | acc, i, c :: r => if (c = 0 ∧ 0 < i) ∨ (1 < c ∧ i = 9) then .form else
      if c < 128 then .ok (acc + c.toNat % 128 * 2 ^ (7 * i)) (i + 1) else rdU (acc + c.toNat % 128 * 2 ^ (7 * i)) (i + 1) r

/-- What is read has the bytes that are written for it. -/
theorem rdU_canon : ∀ {l : List Int} {acc i u n : Nat}, isBytes l → rdU acc i l = .ok u n → i ≤ 9 →
    ∃ w, u = acc + w * 2 ^ (7 * i) ∧ i < n ∧ n - i ≤ l.length ∧ uintB w = l.take (n - i) ∧ n ≤ 10 ∧ (0 < i → w ≠ 0) ∧ w * 2 ^ (7 * i) < 2 ^ 64
  | [], acc, i, u, n, _, h, _ => by simp [rdU] at h
  | c :: r, acc, i, u, n, hb, h, hi => by
    have hc := hb c List.mem_cons_self
    rw [rdU] at h
    split at h
    · cases h
    · rename_i hf
      split at h
      · rename_i hlt
        cases h
        refine ⟨c.toNat, ?_, by omega, ?_, ?_, by omega, fun h0 => ?_, ?_⟩
        · rw [Nat.mod_eq_of_lt (by omega)]
        · simp only [List.length_cons]; omega
        · rw [uintB_lt (by omega), show i + 1 - i = 1 by omega]
          simp only [List.take_succ_cons, List.take_zero]
          rw [Int.toNat_of_nonneg hc.1]
        · intro e
          exact hf (Or.inl ⟨by omega, h0⟩)
        · by_cases h9 : i = 9
          · subst h9
            have : c.toNat ≤ 1 := by
              by_cases h1 : 1 < c
              · exact absurd (Or.inr ⟨h1, rfl⟩) hf
              · omega
            calc c.toNat * 2 ^ (7 * 9) ≤ 1 * 2 ^ (7 * 9) := Nat.mul_le_mul_right _ this
              _ < 2 ^ 64 := by decide
          · calc c.toNat * 2 ^ (7 * i) < 128 * 2 ^ (7 * i) := (Nat.mul_lt_mul_right (Nat.two_pow_pos _)).2 (by omega)
              _ = 2 ^ (7 + 7 * i) := by rw [Nat.pow_add]
              _ ≤ 2 ^ 64 := Nat.pow_le_pow_right (by decide) (by omega)
      · rename_i hge
        have h9 : i ≠ 9 := fun e => hf (Or.inr ⟨by omega, e⟩)
        obtain ⟨w, e1, e2, e3, e4, e5, e6, e7⟩ := rdU_canon (fun x hx => hb x (List.mem_cons_of_mem _ hx)) h (by omega)
        have hw := e6 (by omega)
        have em : c.toNat % 128 + 128 * w = c.toNat % 128 + w * 128 := by omega
        have ep : (2 : Nat) ^ (7 * (i + 1)) = 128 * 2 ^ (7 * i) := by rw [show 7 * (i + 1) = 7 + 7 * i by omega, Nat.pow_add]
        refine ⟨c.toNat % 128 + 128 * w, ?_, by omega, ?_, ?_, e5, fun _ => by omega, ?_⟩
        · rw [e1, ep, Nat.add_mul, ← Nat.mul_assoc, Nat.mul_comm w 128, Nat.add_assoc]
        · simp only [List.length_cons]; omega
        · rw [uintB_ge (by omega), show n - i = (n - (i + 1)) + 1 by omega, List.take_succ_cons, ← e4]
          congr 1
          · omega
          · congr 1
            omega
        · rw [ep] at e7
          have h5 : i + 1 ≤ 9 := by omega
          -- (c % 128 + 128 w) 2^7i < 2^64: w 2^(7i+7) < 2^64 and both are multiples of 2^(7i+7)
          have h6 : w * 2 ^ (7 * (i + 1)) < 2 ^ (64 - 7 * (i + 1)) * 2 ^ (7 * (i + 1)) := by
            rw [← Nat.pow_add, show 64 - 7 * (i + 1) + 7 * (i + 1) = 64 by omega, ep]
            exact e7
          have h7 : w < 2 ^ (64 - 7 * (i + 1)) := Nat.lt_of_mul_lt_mul_right h6
          calc (c.toNat % 128 + 128 * w) * 2 ^ (7 * i) < (128 * 2 ^ (64 - 7 * (i + 1))) * 2 ^ (7 * i) := (Nat.mul_lt_mul_right (Nat.two_pow_pos _)).2 (by omega)
            _ = 2 ^ 64 := by rw [show (128 : Nat) = 2 ^ 7 from rfl, ← Nat.pow_add, ← Nat.pow_add, show 7 + (64 - 7 * (i + 1)) + 7 * i = 64 by omega]

/-- What is written is read. -/
theorem rdU_uintB : ∀ {w acc i : Nat} (r : List Int), w < 2 ^ (64 - 7 * i) → i ≤ 9 → (0 < i → w ≠ 0) →
    rdU acc i (uintB w ++ r) = .ok (acc + w * 2 ^ (7 * i)) (i + (uintB w).length) := by
  intro w
  induction w using Nat.strongRecOn with
  | _ w ih =>
    intro acc i r hw hi h0
    by_cases h : w < 128
    · rw [uintB_lt h, List.singleton_append, rdU, if_neg, if_pos (by omega)]
      · rw [Int.toNat_natCast, Nat.mod_eq_of_lt h]
        rfl
      · rintro (⟨h1, h2⟩ | ⟨h1, h2⟩)
        · exact h0 h2 (by omega)
        · subst h2
          have : w < 2 := by simpa using hw
          omega
    · have h9 : i ≠ 9 := by
        intro e
        subst e
        have : w < 2 := by simpa using hw
        omega
      rw [uintB_ge h, List.cons_append, rdU, if_neg, if_neg (by omega), ih (w / 128) (by omega) r ?_ (by omega) (fun _ => by omega)]
      · have ep : (2 : Nat) ^ (7 * (i + 1)) = 128 * 2 ^ (7 * i) := by rw [show 7 * (i + 1) = 7 + 7 * i by omega, Nat.pow_add]
        congr 1
        · rw [Int.toNat_natCast, ep, Nat.add_assoc, show (128 + w % 128) % 128 = w % 128 by omega, ← Nat.mul_assoc, ← Nat.add_mul]
          congr 2
          omega
        · simp only [List.length_cons]; omega
      · rw [Nat.div_lt_iff_lt_mul (by decide)]
        calc w < 2 ^ (64 - 7 * i) := hw
          _ = 2 ^ (64 - 7 * (i + 1)) * 128 := by rw [show (128 : Nat) = 2 ^ 7 from rfl, ← Nat.pow_add, show 64 - 7 * (i + 1) + 7 = 64 - 7 * i by omega]
      · rintro (⟨h1, h2⟩ | ⟨h1, h2⟩)
        · omega
        · exact h9 h2

/-- A beginning of what is written ends too early. -/
theorem rdU_part : ∀ {w acc i k : Nat}, k < (uintB w).length → i + (uintB w).length ≤ 10 → rdU acc i ((uintB w).take k) = .ended := by
  intro w
  induction w using Nat.strongRecOn with
  | _ w ih =>
    intro acc i k hk hi
    by_cases h : w < 128
    · rw [uintB_lt h] at hk ⊢
      have : k = 0 := by simpa using hk
      subst this
      rfl
    · rw [uintB_ge h] at hk hi ⊢
      cases k with
      | zero => rfl
      | succ k =>
        have hp := uintB_pos (w / 128)
        simp only [List.length_cons] at hk hi
        rw [List.take_succ_cons, rdU, if_neg (by omega), if_neg (by omega)]
        exact ih (w / 128) (by omega) (by omega) (by omega)
theorem uintB_len : ∀ {w i : Nat}, w < 2 ^ (64 - 7 * i) → i ≤ 9 → i + (uintB w).length ≤ 10 := by
  intro w
  induction w using Nat.strongRecOn with
  | _ w ih =>
    intro i hw hi
    by_cases h : w < 128
    · rw [uintB_lt h]; simp only [List.length_singleton]; omega
    · have h9 : i ≠ 9 := by
        intro e
        subst e
        have : w < 2 := by simpa using hw
        omega
      rw [uintB_ge h]
      have := ih (w / 128) (by omega) (i := i + 1) (by
        rw [Nat.div_lt_iff_lt_mul (by decide)]
        calc w < 2 ^ (64 - 7 * i) := hw
          _ = 2 ^ (64 - 7 * (i + 1)) * 128 := by rw [show (128 : Nat) = 2 ^ 7 from rfl, ← Nat.pow_add, show 64 - 7 * (i + 1) + 7 = 64 - 7 * i by omega]) (by omega)
      simp only [List.length_cons]
      omega

end Go.Nm
namespace Go.Nm
open Go
theorem u8_of (n : Nat) : IntKind.u8.wrap (n : Int) = ((n % 256 : Nat) : Int) := by
  simp only [IntKind.wrap, IntKind.bits, IntKind.signed]
  <;> (try simp) <;> (try omega)
theorem or8_all : ∀ n, n < 256 → (n ||| 128) = 128 + n % 128 := by decide +kernel
/-- The code's byte of a number that is not at its end. -/
theorem byte_more (n : Nat) : bitsV .or .u8 (IntKind.u8.wrap (n : Int)) 128 = ((128 + n % 128 : Nat) : Int) := by
  rw [u8_of]
  unfold bitsV
  have e1 : (BitVec.ofInt IntKind.u8.bits ((n % 256 : Nat) : Int)).toNat = n % 256 := by
    rw [BitVec.ofInt_natCast, BitVec.toNat_ofNat]
    exact Nat.mod_eq_of_lt (Nat.mod_lt _ (by decide))
  have e2 : (BitVec.ofInt IntKind.u8.bits (128 : Int)).toNat = 128 := by decide
  have : IntKind.u8.wrap (((n % 256) ||| 128 : Nat) : Int) = ((128 + n % 128 : Nat) : Int) := by
    rw [or8_all _ (Nat.mod_lt _ (by decide)), u8_of]
    omega
  show IntKind.u8.wrap ((BitVec.ofInt IntKind.u8.bits ((n % 256 : Nat) : Int) ||| BitVec.ofInt IntKind.u8.bits 128).toNat : Int) = _
  rw [BitVec.toNat_or, e1, e2, this]
theorem shift7 (n : Nat) : Int.fdiv (n : Int) (2 ^ (min (Int.toNat 7) (IntKind.u64.bits))) = ((n / 128 : Nat) : Int) := by
  show Int.fdiv (n : Int) 128 = _
  rw [Int.fdiv_eq_ediv_of_nonneg _ (by decide)]
  omega
end Go.Nm
namespace Go.Proofs.YtomdcdfcdeaabaaGreat
open Go Go.Nm Go.Proofs
section
variable {F L : List Assn} {H : Heap} {K : Value → Heap → Prop}

theorem uintB_len10 {u : Nat} (hu : u < 18446744073709551616) : (uintB u).length ≤ 10 := by
  have := uintB_len (w := u) (i := 0) (by simpa using hu) (by omega)
  omega

theorem put_spec {a : Option Addr} {c : Nat} {bs : List Int} {u : Nat} (h : SatL H (slA 5 1 a bs.length c (bs.map U8) :: F)) (hl : bs.length ≤ 1099511627776) (hu : u < 18446744073709551616)
    (k : ∀ a' c' H', SatL H' (slA 5 1 a' (bs ++ uintB u).length c' ((bs ++ uintB u).map U8) :: F) → K (.slice a' (bs ++ uintB u).length c') H') :
    CallF Tryz.prog 94 #[.slice a bs.length c, .int .u64 u] H K := by
  refine code_put.call ?_
  unfold code_put.code
  refine ⟨fun a' n' c' u' H' => ∃ (cs : List Int) (w : Nat), n' = cs.length ∧ u' = w ∧ w < 18446744073709551616 ∧ cs ++ uintB w = bs ++ uintB u ∧ SatL H' (slA 5 1 a' cs.length c' (cs.map U8) :: F), fun _ _ _ u _ => u.toNat,
    ⟨bs, u, rfl, rfl, hu, rfl, h⟩, ?_⟩
  rintro a1 n1 c1 u1 H1 ⟨cs, w, rfl, rfl, hw, he, h1⟩
  have hcl : cs.length ≤ 1099511627786 := by
    have := congrArg List.length he
    simp only [List.length_append] at this
    have := uintB_len10 hu
    omega
  unfold code_put.l1
  refine ⟨fun hc => ?_, fun hc => ?_⟩
  · have h128 : ¬ w < 128 := by simp at hc; omega
    rintro _ _ rfl rfl
    rw [byte_more, shift7]
    refine h1.append1 sl32 0 rfl (by rfl) (by rfl) (by omega) (by omega) fun a' c' H3 h3 => ⟨_, _, _, rfl, by decide, ?_, by dsimp only; omega⟩
    refine ⟨cs ++ [((128 + w % 128 : Nat) : Int)], w / 128, by simp, rfl, by omega, ?_, ?_⟩
    · rw [← he, uintB_ge h128, List.append_assoc, List.singleton_append]
    · rw [List.map_append, List.length_append]
      exact h3
  · have h128 : w < 128 := by simp at hc; omega
    rintro _ _ rfl rfl
    rw [u8_of]
    refine h1.append1 sl32 0 rfl (by rfl) (by rfl) (by omega) (by omega) fun a' c' H3 h3 => ⟨_, _, _, rfl, ?_⟩
    have := k a' c' H3
    rw [← he, uintB_lt h128, List.length_append] at this
    refine this ?_
    rw [List.map_append]
    rw [Nat.mod_eq_of_lt (by omega)] at h3
    exact h3

theorem R06Uint_spec {u : Nat} (h : SatL H F) (hu : u < 18446744073709551616)
    (k : ∀ a' c' H', SatL H' (slA 5 1 a' (uintB u).length c' ((uintB u).map U8) :: F) → K (.slice a' (uintB u).length c') H') :
    CallF Tryz.prog 80 #[.int .u64 u] H K := by
  refine R06_Uint.call ?_
  unfold R06_Uint.code
  rintro _ _ rfl rfl
  have h0 : SatL _ (slA 5 1 (some ⟨_, 0, none⟩) 0 0 [] :: _) := SatL.sl_pt (cs := []) (h.push (.cells #[] 5)) 0 0 rfl
  refine ⟨fun u' a' n' c' H' => ∃ (cs : List Int) (w : Nat), n' = cs.length ∧ u' = w ∧ w < 18446744073709551616 ∧ cs ++ uintB w = uintB u ∧ SatL H' (slA 5 1 a' cs.length c' (cs.map U8) :: F), fun u _ _ _ _ => u.toNat,
    ⟨[], u, rfl, rfl, hu, rfl, h0⟩, ?_⟩
  rintro u1 a1 n1 c1 H1 ⟨cs, w, rfl, rfl, hw, he, h1⟩
  have hcl : cs.length ≤ 10 := by
    have := congrArg List.length he
    simp only [List.length_append] at this
    have := uintB_len10 hu
    omega
  have et : Int.tmod (w : Int) 128 = ((w % 128 : Nat) : Int) := by rw [Int.tmod_eq_emod_of_nonneg (by omega)]; omega
  have ed : Int.tdiv (w : Int) 128 = ((w / 128 : Nat) : Int) := by rw [Int.tdiv_eq_ediv_of_nonneg (by omega)]; omega
  unfold R06_Uint.l1
  refine ⟨fun hc => ?_, fun hc => ?_⟩
  · have h128 : ¬ w < 128 := by simp at hc; omega
    refine ⟨by decide, ?_⟩
    rintro _ _ rfl rfl
    have eb : IntKind.u8.wrap (IntKind.u64.wrap (128 + (Int.tmod (w : Int) 128))) = ((128 + w % 128 : Nat) : Int) := by
      rw [et, u64w (by omega) (by omega), u8w (by omega) (by omega)]
      omega
    rw [eb, ed, u64w (by omega) (by omega)]
    refine h1.append1 sl32 0 rfl (by rfl) (by rfl) (by omega) (by omega) fun a' c' H3 h3 => ⟨_, _, _, rfl, by decide, ?_, by dsimp only; omega⟩
    refine ⟨cs ++ [((128 + w % 128 : Nat) : Int)], w / 128, by simp, rfl, by omega, ?_, ?_⟩
    · rw [← he, uintB_ge h128, List.append_assoc, List.singleton_append]
    · rw [List.map_append, List.length_append]
      exact h3
  · have h128 : w < 128 := by simp at hc; omega
    rintro _ _ rfl rfl
    rw [u8_of]
    refine h1.append1 sl32 0 rfl (by rfl) (by rfl) (by omega) (by omega) fun a' c' H3 h3 => ⟨_, _, _, rfl, ?_⟩
    have := k a' c' H3
    rw [← he, uintB_lt h128, List.length_append] at this
    refine this ?_
    rw [List.map_append]
    rw [Nat.mod_eq_of_lt (by omega)] at h3
    exact h3
end
end Go.Proofs.YtomdcdfcdeaabaaGreat
namespace Go.Nm
open Go
theorem or64_add {a m p : Nat} (ha : a < 2 ^ p) (h : a + m * 2 ^ p < 18446744073709551616) : bitsV .or .u64 (a : Int) ((m * 2 ^ p : Nat) : Int) = ((a + m * 2 ^ p : Nat) : Int) := by
  have h1 : a < 18446744073709551616 := by omega
  have h2 : m * 2 ^ p < 18446744073709551616 := by omega
  have e1 : (BitVec.ofInt IntKind.u64.bits (a : Int)).toNat = a := by
    rw [BitVec.ofInt_natCast, BitVec.toNat_ofNat]; exact Nat.mod_eq_of_lt h1
  have e2 : (BitVec.ofInt IntKind.u64.bits ((m * 2 ^ p : Nat) : Int)).toNat = m * 2 ^ p := by
    rw [BitVec.ofInt_natCast, BitVec.toNat_ofNat]; exact Nat.mod_eq_of_lt h2
  have e3 : a ||| m * 2 ^ p = a + m * 2 ^ p := by
    rw [Nat.mul_comm m, Nat.or_comm, ← Nat.two_pow_add_eq_or_of_lt ha, Nat.add_comm]
  show IntKind.u64.wrap ((BitVec.ofInt IntKind.u64.bits (a : Int) ||| BitVec.ofInt IntKind.u64.bits ((m * 2 ^ p : Nat) : Int)).toNat : Int) = _
  rw [BitVec.toNat_or, e1, e2, e3, u64w (by omega) (by omega)]
/-- A byte's part of a number. -/
theorem part64 {c : Int} {i : Nat} (h0 : 0 ≤ c) (h1 : c < 256) (hi : i ≤ 9) (h9 : i = 9 → c ≤ 1) :
    IntKind.u64.wrap ((IntKind.u64.wrap (Int.tmod c 128)) * 2 ^ (min (7 * i) 64)) = ((c.toNat % 128 * 2 ^ (7 * i) : Nat) : Int) ∧ c.toNat % 128 * 2 ^ (7 * i) + 2 ^ (7 * i) ≤ 18446744073709551616 := by
  have em : Int.tmod c 128 = ((c.toNat % 128 : Nat) : Int) := by rw [Int.tmod_eq_emod_of_nonneg h0]; omega
  have hb : c.toNat % 128 * 2 ^ (7 * i) + 2 ^ (7 * i) ≤ 18446744073709551616 := by
    have e : c.toNat % 128 * 2 ^ (7 * i) + 2 ^ (7 * i) = (c.toNat % 128 + 1) * 2 ^ (7 * i) := by rw [Nat.add_mul, Nat.one_mul]
    rw [e]
    by_cases h : i = 9
    · have := h9 h
      subst h
      calc (c.toNat % 128 + 1) * 2 ^ (7 * 9) ≤ 2 * 2 ^ (7 * 9) := Nat.mul_le_mul_right _ (by omega)
        _ = 18446744073709551616 := by decide
    · calc (c.toNat % 128 + 1) * 2 ^ (7 * i) ≤ 128 * 2 ^ (7 * 8) := Nat.mul_le_mul (by omega) (Nat.pow_le_pow_right (by decide) (by omega))
        _ ≤ 18446744073709551616 := by decide
  refine ⟨?_, hb⟩
  have hp : 0 < 2 ^ (7 * i) := Nat.two_pow_pos _
  rw [em, u64w (x := ((c.toNat % 128 : Nat) : Int)) (by omega) (by omega), Nat.min_eq_left (by omega)]
  have : ((c.toNat % 128 : Nat) : Int) * 2 ^ (7 * i) = ((c.toNat % 128 * 2 ^ (7 * i) : Nat) : Int) := by
    rw [Int.natCast_mul, Int.natCast_pow]; rfl
  rw [this, u64w (by omega) (by omega)]

def firV : UR → Value
  | .ok u n => .tuple #[.int .u64 u, .int .i64 n, .int .i64 0]
  | .form => .tuple #[.int .u64 0, .int .i64 0, .int .i64 10]
  | .ended => .tuple #[.int .u64 0, .int .i64 0, .int .i64 15]
/-- A step of reading. -/
inductive RStep (bs : List Int) (k acc : Nat) : Prop where
  | fin (h : bs.length ≤ k) (e : rdU acc k (bs.drop k) = .ended)
  | go (h : k < bs.length) (c : Int) (hc : bs[k] = c) (h0 : 0 ≤ c) (h1 : c < 256) (hf : ¬ ((c = 0 ∧ 0 < k) ∨ (1 < c ∧ k = 9)))
      (e1 : c < 128 → rdU acc k (bs.drop k) = .ok (acc + c.toNat % 128 * 2 ^ (7 * k)) (k + 1))
      (e2 : ¬ c < 128 → rdU acc k (bs.drop k) = rdU (acc + c.toNat % 128 * 2 ^ (7 * k)) (k + 1) (bs.drop (k + 1)))
  | bad (h : k < bs.length) (c : Int) (hc : bs[k] = c) (hf : (c = 0 ∧ 0 < k) ∨ (1 < c ∧ k = 9)) (e : rdU acc k (bs.drop k) = .form)
theorem rstep {bs : List Int} (hb : isBytes bs) (k acc : Nat) : RStep bs k acc := by
  rcases Nat.lt_or_ge k bs.length with h | h
  · have hd : bs.drop k = bs[k] :: bs.drop (k + 1) := List.drop_eq_getElem_cons h
    have hx := hb _ (List.getElem_mem h)
    by_cases hf : (bs[k] = 0 ∧ 0 < k) ∨ (1 < bs[k] ∧ k = 9)
    · exact .bad h _ rfl hf (by rw [hd, rdU, if_pos hf])
    · refine .go h _ rfl hx.1 hx.2 hf (fun h1 => ?_) (fun h1 => ?_)
      · rw [hd, rdU, if_neg hf, if_pos h1]
      · rw [hd, rdU, if_neg hf, if_neg h1]
  · exact .fin h (by rw [List.drop_eq_nil_of_le h]; rfl)
end Go.Nm
namespace Go.Proofs.YtomdcdfcdeaabaaGreat
open Go Go.Nm Go.Proofs

theorem first_spec {H : Heap} {a : Option Addr} {c : Nat} {bs : List Int} (ha : rdS H a (bs.map U8)) (hb : isBytes bs) (hl : bs.length ≤ 1099511627776) :
    CallQ Tryz.prog 95 #[.slice a bs.length c] H (firV (rdU 0 0 bs)) := by
  unfold CallQ
  refine code_first.call ?_
  unfold code_first.code
  refine ⟨fun u i H' => H' = H ∧ ∃ k acc : Nat, i = k ∧ u = acc ∧ k ≤ 9 ∧ k ≤ bs.length ∧ acc < 2 ^ (7 * k) ∧ rdU acc k (bs.drop k) = rdU 0 0 bs, fun _ i _ => bs.length - i.toNat, ⟨rfl, 0, 0, rfl, rfl, by decide, Nat.zero_le _, by decide, rfl⟩, ?_⟩
  rintro u i H' ⟨rfl, k, acc, rfl, rfl, h9, hk, hacc, he⟩
  unfold code_first.l1
  refine ⟨fun hc => ?_, fun hc => ?_⟩
  · have hlt : k < bs.length := by simpa using hc
    have h1 := ha.at hlt
    refine ⟨⟨by omega, by omega⟩, _, _, h1.1, _, h1.2, ?_⟩
    have e7 : IntKind.i64.wrap (7 * (k : Int)) = ((7 * k : Nat) : Int) := by rw [w64 (by omega) (by omega)]; omega
    have ek : IntKind.i64.wrap ((k : Int) + 1) = ((k + 1 : Nat) : Int) := w64 (by omega) (by omega)
    rcases rstep hb k acc with ⟨h, _⟩ | ⟨h, x, hx, h0, h1', hf, e1, e2⟩ | ⟨h, x, hx, hf, e⟩
    · omega
    · rw [hx]
      have hp := part64 (c := x) (i := k) h0 h1' h9 (fun e9 => by
        rcases Int.lt_or_le 1 x with h2 | h2
        · exact absurd (Or.inr ⟨h2, e9⟩) hf
        · exact h2)
      refine ⟨fun hb1 => ?_, fun _ => ⟨by decide, by rw [e7]; omega, fun hb2 => ?_, fun hb2 => ?_⟩⟩
      · exfalso
        apply hf
        simp only [Bool.or_eq_true, Bool.and_eq_true, decide_eq_true_eq] at hb1
        omega
      · rw [e7, ek, Int.toNat_natCast]
        show _ = _ ∧ _
        have hp1 : IntKind.u64.wrap (IntKind.u64.wrap (Int.tmod x 128) * 2 ^ (min (7 * k) IntKind.u64.bits)) = ((x.toNat % 128 * 2 ^ (7 * k) : Nat) : Int) := hp.1
        rw [hp1, or64_add hacc (by omega), ← he, e1 (by simpa using hb2)]
        exact ⟨rfl, rfl⟩
      · rw [e7, ek, Int.toNat_natCast]
        have hp1 : IntKind.u64.wrap (IntKind.u64.wrap (Int.tmod x 128) * 2 ^ (min (7 * k) IntKind.u64.bits)) = ((x.toNat % 128 * 2 ^ (7 * k) : Nat) : Int) := hp.1
        have hge : ¬ x < 128 := by simpa using hb2
        rw [hp1, or64_add hacc (by omega)]
        have k9 : k ≠ 9 := fun e9 => hf (Or.inr ⟨by omega, e9⟩)
        refine ⟨⟨rfl, k + 1, _, rfl, rfl, by omega, by omega, ?_, ?_⟩, by dsimp only; omega⟩
        · calc acc + x.toNat % 128 * 2 ^ (7 * k) < 2 ^ (7 * k) + x.toNat % 128 * 2 ^ (7 * k) := by omega
            _ = (x.toNat % 128 + 1) * 2 ^ (7 * k) := by rw [Nat.add_mul, Nat.one_mul, Nat.add_comm]
            _ ≤ 128 * 2 ^ (7 * k) := Nat.mul_le_mul_right _ (by omega)
            _ = 2 ^ (7 * (k + 1)) := by rw [show 7 * (k + 1) = 7 + 7 * k by omega, Nat.pow_add]
        · rw [← he, e2 hge]
    · rw [hx]
      refine ⟨fun _ => ?_, fun hb1 => ?_⟩
      · rw [← he, e]
        exact ⟨rfl, rfl⟩
      · exfalso
        simp only [Bool.or_eq_false_iff, Bool.and_eq_false_iff, decide_eq_false_iff_not] at hb1
        omega
  · have hk2 : bs.length ≤ k := by simp at hc; omega
    rcases rstep hb k acc with ⟨h, e⟩ | ⟨h, _⟩ | ⟨h, _⟩
    · rw [← he, e]
      exact ⟨rfl, rfl⟩
    · omega
    · omega

def cntR (most : Int) : UR → UR
  | .ok u n => if (max most 0 : Int) < u then .form else .ok u n
  | r => r
/-- What count answers. -/
def cntV (most : Int) : UR → Value
  | .ok u n => if max most 0 < (u : Int) then .tuple #[.int .i64 0, .int .i64 0, .int .i64 17] else .tuple #[.int .i64 u, .int .i64 n, .int .i64 0]
  | .form => .tuple #[.int .i64 0, .int .i64 0, .int .i64 10]
  | .ended => .tuple #[.int .i64 0, .int .i64 0, .int .i64 15]
theorem count_spec {H : Heap} {a : Option Addr} {c : Nat} {bs : List Int} {most : Int} (ha : rdS H a (bs.map U8)) (hb : isBytes bs) (hl : bs.length ≤ 1099511627776) (hm : wf64 most) :
    CallQ Tryz.prog 73 #[.slice a bs.length c, .int .i64 most] H (cntV most (rdU 0 0 bs)) := by
  unfold CallQ
  refine code_count.call ?_
  unfold code_count.code
  have h1 := first_spec (c := c) ha hb hl
  have ew : IntKind.u64.wrap (if 0 > most then 0 else most) = max most 0 := by
    unfold wf64 at hm
    split <;> rw [u64w (by omega) (by omega)] <;> omega
  rw [ew]
  cases hr : rdU 0 0 bs with
  | ok u n =>
    rw [hr] at h1
    refine ⟨_, _, _, h1, (fun hf => by cases hf), fun _ => ⟨fun hc => ?_, fun hc => ?_⟩⟩
    · have hlt : max most 0 < (u : Int) := by simpa using hc
      unfold cntV
      dsimp only
      rw [if_pos hlt]
      exact ⟨rfl, rfl⟩
    · have hle : ¬ max most 0 < (u : Int) := by simpa using hc
      unfold cntV
      unfold wf64 at hm
      dsimp only
      rw [if_neg hle, w64 (by omega) (by omega)]
      exact ⟨rfl, rfl⟩
  | form =>
    rw [hr] at h1
    exact ⟨_, _, _, h1, fun _ => ⟨rfl, rfl⟩, (fun hf => by cases hf)⟩
  | ended =>
    rw [hr] at h1
    exact ⟨_, _, _, h1, fun _ => ⟨rfl, rfl⟩, (fun hf => by cases hf)⟩

section
variable {F L : List Assn} {H : Heap} {K : Value → Heap → Prop}
theorem Uints1_spec {a : Option Addr} {c : Nat} {u : Nat} (h : SatL H F) (ha : ∀ H, SatL H F → rdS H a [.int .u64 u]) (hu : u < 18446744073709551616)
    (k : ∀ a' c' H', SatL H' (slA 5 1 a' (uintB u).length c' ((uintB u).map U8) :: F) → K (.slice a' (uintB u).length c') H') :
    CallF Tryz.prog 71 #[.slice a 1 c] H K := by
  refine code_Uints.call ?_
  unfold code_Uints.code
  refine ⟨fun a' n' c' i H' => (i = 0 ∧ n' = 0 ∧ c' = 0 ∧ a' = none ∧ SatL H' F) ∨ (i = 1 ∧ n' = (uintB u).length ∧ SatL H' (slA 5 1 a' (uintB u).length c' ((uintB u).map U8) :: F)), fun _ _ _ i _ => 1 - i.toNat,
    .inl ⟨rfl, rfl, rfl, rfl, h⟩, ?_⟩
  rintro a1 n1 c1 i H1 (⟨rfl, rfl, rfl, rfl, h1⟩ | ⟨rfl, rfl, h1⟩)
  · unfold code_Uints.l1
    refine ⟨fun _ => ?_, (fun hf => by cases hf)⟩
    have hr := (ha _ h1) 0 _ rfl
    refine ⟨by decide, _, _, hr.1, _, hr.2, ?_⟩
    have h2 : SatL H1 (slA 5 1 none ([] : List Int).length 0 (([] : List Int).map U8) :: F) := h1.sl_nil 5 1
    refine put_spec (bs := []) h2 (by simp) hu fun a' c' H' h3 => ⟨_, _, _, rfl, .inr ⟨rfl, rfl, h3⟩, by dsimp only; decide⟩
  · unfold code_Uints.l1
    exact ⟨(fun hf => by cases hf), fun _ => k _ _ _ h1⟩
end
end Go.Proofs.YtomdcdfcdeaabaaGreat
