/-
  Sums of bytes, plainly: the code's step and the reference's are one.
-/
import Derived.Test.YtomdcdfcdeaabaaD8
set_option linter.unusedVariables false
set_option linter.unusedSimpArgs false
namespace Go.Nm
open Go

theorem u32w {x : Int} (h1 : 0 ≤ x) (h2 : x < 4294967296) : IntKind.u32.wrap x = x := by
  simp only [IntKind.wrap, IntKind.bits, IntKind.signed] at *
  first | omega | (simp; omega)
theorem u8w {x : Int} (h1 : 0 ≤ x) (h2 : x < 256) : IntKind.u8.wrap x = x := by
  simp only [IntKind.wrap, IntKind.bits, IntKind.signed] at *
  first | omega | (simp; omega)
theorem u64w {x : Int} (h1 : 0 ≤ x) (h2 : x < 18446744073709551616) : IntKind.u64.wrap x = x := by
  simp only [IntKind.wrap, IntKind.bits, IntKind.signed] at *
  first | omega | (simp; omega)

theorem u32_of {n : Nat} (h : n < 4294967296) : (BitVec.ofInt IntKind.u32.bits (n : Int)).toNat = n := by
  rw [BitVec.ofInt_natCast, BitVec.toNat_ofNat]
  exact Nat.mod_eq_of_lt h
theorem xor32 {n m : Nat} (hn : n < 4294967296) (hm : m < 4294967296) : bitsV .xor .u32 (n : Int) (m : Int) = ((n ^^^ m : Nat) : Int) := by
  unfold bitsV
  rw [BitVec.toNat_xor, u32_of hn, u32_of hm]
  have : n ^^^ m < 2 ^ 32 := Nat.xor_lt_two_pow hn hm
  exact u32w (by omega) (by omega)
theorem and32 {n m : Nat} (hn : n < 4294967296) (hm : m < 4294967296) : bitsV .and .u32 (n : Int) (m : Int) = ((n &&& m : Nat) : Int) := by
  unfold bitsV
  rw [BitVec.toNat_and, u32_of hn, u32_of hm]
  have : n &&& m < 2 ^ 32 := Nat.and_lt_two_pow n hm
  exact u32w (by omega) (by omega)

def stepC (n : Nat) : Nat := if n % 2 = 1 then (n / 2) ^^^ 3988292384 else n / 2
theorem stepC_lt {n : Nat} (h : n < 4294967296) : stepC n < 4294967296 := by
  unfold stepC
  split
  · have : (n / 2) ^^^ 3988292384 < 2 ^ 32 := Nat.xor_lt_two_pow (by omega) (by decide)
    omega
  · omega
def stepsC : Nat → Nat → Nat
  | 0, n => n
  | k + 1, n => stepC (stepsC k n)
theorem stepsC_lt {n : Nat} (h : n < 4294967296) : ∀ k, stepsC k n < 4294967296
  | 0 => h
  | k + 1 => stepC_lt (stepsC_lt h k)
def u32n (v : Int) : Nat := (IntKind.u32.wrap v).toNat
theorem u32n_in (v : Int) : (u32n v : Int) = IntKind.u32.wrap v ∧ u32n v < 4294967296 := by
  unfold u32n
  simp only [IntKind.wrap, IntKind.bits, IntKind.signed]
  first | omega | (simp; omega)
def byteC (n : Nat) (v : Int) : Nat := stepsC 8 (n ^^^ u32n v)
theorem xor_lt32 {n m : Nat} (hn : n < 4294967296) (hm : m < 4294967296) : n ^^^ m < 4294967296 := by
  have : n ^^^ m < 2 ^ 32 := Nat.xor_lt_two_pow hn hm
  omega
theorem byteC_lt {n : Nat} {v : Int} (h : n < 4294967296) : byteC n v < 4294967296 := stepsC_lt (xor_lt32 h (u32n_in v).2) 8
/-- Are these bytes? -/
def isBytes (l : List Int) : Prop := ∀ x ∈ l, 0 ≤ x ∧ x < 256
def crcN (n : Nat) (l : List Int) : Nat := l.foldl byteC n
theorem crcN_lt : ∀ {l : List Int} {n : Nat}, n < 4294967296 → crcN n l < 4294967296
  | [], n, h => h
  | v :: r, n, h => crcN_lt (l := r) (byteC_lt h)
def crcS (l : List Int) : Int := ((4294967295 ^^^ crcN 4294967295 l : Nat) : Int)
theorem crcS_in (l : List Int) : 0 ≤ crcS l ∧ crcS l < 4294967296 := by
  have := xor_lt32 (n := 4294967295) (by decide) (crcN_lt (l := l) (n := 4294967295) (by decide))
  unfold crcS
  omega
theorem crc_end (l : List Int) : bitsV .xor .u32 IntKind.u32.max (crcN 4294967295 l : Int) = crcS l := by
  rw [show IntKind.u32.max = ((4294967295 : Nat) : Int) from rfl, xor32 (by decide) (crcN_lt (by decide))]
  rfl
theorem crc_byte {n : Nat} (h : n < 4294967296) (v : Int) : bitsV .xor .u32 (n : Int) (IntKind.u32.wrap v) = ((n ^^^ u32n v : Nat) : Int) := by
  rw [← (u32n_in v).1, xor32 h (u32n_in v).2]
theorem crcN_append (n : Nat) (l r : List Int) : crcN n (l ++ r) = crcN (crcN n l) r := List.foldl_append ..
theorem crcN_take {l : List Int} {n i : Nat} (h : i < l.length) : crcN n (l.take (i + 1)) = byteC (crcN n (l.take i)) l[i] := by
  rw [← List.take_append_getElem h, crcN_append]
  rfl

/-- The code's step. -/
theorem step_code {n : Nat} (h : n < 4294967296) :
    bitsV .xor .u32 (Int.fdiv (n : Int) (2 ^ (min (Int.toNat 1) (IntKind.u32.bits)))) (bitsV .and .u32 (IntKind.u32.wrap (0 - (bitsV .and .u32 (n : Int) 1))) 3988292384) = (stepC n : Int) := by
  have e1 : Int.fdiv (n : Int) (2 ^ (min (Int.toNat 1) (IntKind.u32.bits))) = ((n / 2 : Nat) : Int) := by
    show Int.fdiv (n : Int) 2 = _
    rw [Int.fdiv_eq_ediv_of_nonneg _ (by decide)]
    omega
  have e2 : bitsV .and .u32 (n : Int) 1 = ((n % 2 : Nat) : Int) := by
    rw [show (1 : Int) = ((1 : Nat) : Int) from rfl, and32 h (by decide), Nat.and_one_is_mod]
  rw [e1, e2]
  unfold stepC
  rcases Nat.mod_two_eq_zero_or_one n with h0 | h0
  · rw [h0, if_neg (by decide)]
    have : bitsV .and .u32 (IntKind.u32.wrap (0 - ((0 : Nat) : Int))) 3988292384 = ((0 : Nat) : Int) := by decide
    rw [this, xor32 (by omega) (by decide), Nat.xor_zero]
  · rw [h0, if_pos rfl]
    have : bitsV .and .u32 (IntKind.u32.wrap (0 - ((1 : Nat) : Int))) 3988292384 = ((3988292384 : Nat) : Int) := by decide
    rw [this, xor32 (by omega) (by decide)]
/-- The reference's. -/
theorem step_ref1 {n : Nat} (h : n < 4294967296) (h1 : Int.tmod (n : Int) 2 = 1) : bitsV .xor .u32 (IntKind.u32.wrap (Int.tdiv (n : Int) 2)) 3988292384 = (stepC n : Int) := by
  have e1 : Int.tdiv (n : Int) 2 = ((n / 2 : Nat) : Int) := by rw [Int.tdiv_eq_ediv_of_nonneg (by omega)]; omega
  have e2 : n % 2 = 1 := by rw [Int.tmod_eq_emod_of_nonneg (by omega)] at h1; omega
  rw [e1, u32w (by omega) (by omega)]
  unfold stepC
  rw [if_pos e2, show (3988292384 : Int) = ((3988292384 : Nat) : Int) from rfl, xor32 (by omega) (by decide)]
theorem step_ref0 {n : Nat} (h : n < 4294967296) (h1 : Int.tmod (n : Int) 2 ≠ 1) : IntKind.u32.wrap (Int.tdiv (n : Int) 2) = (stepC n : Int) := by
  have e1 : Int.tdiv (n : Int) 2 = ((n / 2 : Nat) : Int) := by rw [Int.tdiv_eq_ediv_of_nonneg (by omega)]; omega
  have e2 : ¬ n % 2 = 1 := by rw [Int.tmod_eq_emod_of_nonneg (by omega)] at h1; omega
  rw [e1, u32w (by omega) (by omega)]
  unfold stepC
  rw [if_neg e2]

end Go.Nm
