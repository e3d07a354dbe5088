/-
  Numbers as bytes, plainly: written, and read.
-/
import Derived.Test.YtomdcdfcdeaabaaRA
set_option linter.unusedVariables false
set_option linter.unusedSimpArgs false
namespace Go.Nm
open Go

/-- A number's bytes. -/
def uintB (u : Nat) : List Int := if h : u < 128 then [(u : Int)] else ((128 + u % 128 : Nat) : Int) :: uintB (u / 128)
termination_by u
decreasing_by omega
theorem uintB_lt {u : Nat} (h : u < 128) : uintB u = [(u : Int)] := by rw [uintB, dif_pos h]
theorem uintB_ge {u : Nat} (h : ¬ u < 128) : uintB u = ((128 + u % 128 : Nat) : Int) :: uintB (u / 128) := by rw [uintB, dif_neg h]
theorem uintB_bytes (u : Nat) : isBytes (uintB u) := by
  induction u using Nat.strongRecOn with
  | _ u ih =>
    by_cases h : u < 128
    · rw [uintB_lt h]
      intro x hx
      rw [List.mem_singleton] at hx
      omega
    · rw [uintB_ge h]
      intro x hx
      rcases List.mem_cons.1 hx with rfl | hx
      · omega
      · exact ih (u / 128) (by omega) x hx
theorem uintB_pos (u : Nat) : 0 < (uintB u).length := by
  by_cases h : u < 128
  · rw [uintB_lt h]; exact Nat.zero_lt_one
  · rw [uintB_ge h]; simp
/-- How a reading ends. -/
inductive UR where
  | ok (u : Nat) (size : Nat)
  | form
  | ended
  deriving DecidableEq
def rdU : Nat → Nat → List Int → UR
  | _, _, [] => .ended
  | acc, i, c :: r => if (c = 0 ∧ 0 < i) ∨ (1 < c ∧ i = 9) then .form else
      if c < 128 then .ok (acc + c.toNat % 128 * 2 ^ (7 * i)) (i + 1) else rdU (acc + c.toNat % 128 * 2 ^ (7 * i)) (i + 1) r

/-- What is read has the bytes that are written for it. -/
theorem rdU_canon : ∀ {l : List Int} {acc i u n : Nat}, isBytes l → rdU acc i l = .ok u n → i ≤ 9 →
    ∃ w, u = acc + w * 2 ^ (7 * i) ∧ i < n ∧ n - i ≤ l.length ∧ uintB w = l.take (n - i) ∧ n ≤ 10 ∧ (0 < i → w ≠ 0) ∧ w * 2 ^ (7 * i) < 2 ^ 64
  | [], acc, i, u, n, _, h, _ => by simp [rdU] at h
  | c :: r, acc, i, u, n, hb, h, hi => by
    have hc := hb c List.mem_cons_self
    rw [rdU] at h
    split at h
    · cases h
    · rename_i hf
      split at h
      · rename_i hlt
        cases h
        refine ⟨c.toNat, ?_, by omega, ?_, ?_, by omega, fun h0 => ?_, ?_⟩
        · rw [Nat.mod_eq_of_lt (by omega)]
        · simp only [List.length_cons]; omega
        · rw [uintB_lt (by omega), show i + 1 - i = 1 by omega]
          simp only [List.take_succ_cons, List.take_zero]
          rw [Int.toNat_of_nonneg hc.1]
        · intro e
          exact hf (Or.inl ⟨by omega, h0⟩)
        · by_cases h9 : i = 9
          · subst h9
            have : c.toNat ≤ 1 := by
              by_cases h1 : 1 < c
              · exact absurd (Or.inr ⟨h1, rfl⟩) hf
              · omega
            calc c.toNat * 2 ^ (7 * 9) ≤ 1 * 2 ^ (7 * 9) := Nat.mul_le_mul_right _ this
              _ < 2 ^ 64 := by decide
          · calc c.toNat * 2 ^ (7 * i) < 128 * 2 ^ (7 * i) := (Nat.mul_lt_mul_right (Nat.two_pow_pos _)).2 (by omega)
              _ = 2 ^ (7 + 7 * i) := by rw [Nat.pow_add]
              _ ≤ 2 ^ 64 := Nat.pow_le_pow_right (by decide) (by omega)
      · rename_i hge
        have h9 : i ≠ 9 := fun e => hf (Or.inr ⟨by omega, e⟩)
        obtain ⟨w, e1, e2, e3, e4, e5, e6, e7⟩ := rdU_canon (fun x hx => hb x (List.mem_cons_of_mem _ hx)) h (by omega)
        have hw := e6 (by omega)
        have em : c.toNat % 128 + 128 * w = c.toNat % 128 + w * 128 := by omega
        have ep : (2 : Nat) ^ (7 * (i + 1)) = 128 * 2 ^ (7 * i) := by rw [show 7 * (i + 1) = 7 + 7 * i by omega, Nat.pow_add]
        refine ⟨c.toNat % 128 + 128 * w, ?_, by omega, ?_, ?_, e5, fun _ => by omega, ?_⟩
        · rw [e1, ep, Nat.add_mul, ← Nat.mul_assoc, Nat.mul_comm w 128, Nat.add_assoc]
        · simp only [List.length_cons]; omega
        · rw [uintB_ge (by omega), show n - i = (n - (i + 1)) + 1 by omega, List.take_succ_cons, ← e4]
          congr 1
          · omega
          · congr 1
            omega
        · rw [ep] at e7
          have h5 : i + 1 ≤ 9 := by omega
          -- (c % 128 + 128 w) 2^7i < 2^64: w 2^(7i+7) < 2^64 and both are multiples of 2^(7i+7)
          have h6 : w * 2 ^ (7 * (i + 1)) < 2 ^ (64 - 7 * (i + 1)) * 2 ^ (7 * (i + 1)) := by
            rw [← Nat.pow_add, show 64 - 7 * (i + 1) + 7 * (i + 1) = 64 by omega, ep]
            exact e7
          have h7 : w < 2 ^ (64 - 7 * (i + 1)) := Nat.lt_of_mul_lt_mul_right h6
          calc (c.toNat % 128 + 128 * w) * 2 ^ (7 * i) < (128 * 2 ^ (64 - 7 * (i + 1))) * 2 ^ (7 * i) := (Nat.mul_lt_mul_right (Nat.two_pow_pos _)).2 (by omega)
            _ = 2 ^ 64 := by rw [show (128 : Nat) = 2 ^ 7 from rfl, ← Nat.pow_add, ← Nat.pow_add, show 7 + (64 - 7 * (i + 1)) + 7 * i = 64 by omega]

/-- What is written is read. -/
theorem rdU_uintB : ∀ {w acc i : Nat} (r : List Int), w < 2 ^ (64 - 7 * i) → i ≤ 9 → (0 < i → w ≠ 0) →
    rdU acc i (uintB w ++ r) = .ok (acc + w * 2 ^ (7 * i)) (i + (uintB w).length) := by
  intro w
  induction w using Nat.strongRecOn with
  | _ w ih =>
    intro acc i r hw hi h0
    by_cases h : w < 128
    · rw [uintB_lt h, List.singleton_append, rdU, if_neg, if_pos (by omega)]
      · rw [Int.toNat_natCast, Nat.mod_eq_of_lt h]
        rfl
      · rintro (⟨h1, h2⟩ | ⟨h1, h2⟩)
        · exact h0 h2 (by omega)
        · subst h2
          have : w < 2 := by simpa using hw
          omega
    · have h9 : i ≠ 9 := by
        intro e
        subst e
        have : w < 2 := by simpa using hw
        omega
      rw [uintB_ge h, List.cons_append, rdU, if_neg, if_neg (by omega), ih (w / 128) (by omega) r ?_ (by omega) (fun _ => by omega)]
      · have ep : (2 : Nat) ^ (7 * (i + 1)) = 128 * 2 ^ (7 * i) := by rw [show 7 * (i + 1) = 7 + 7 * i by omega, Nat.pow_add]
        congr 1
        · rw [Int.toNat_natCast, ep, Nat.add_assoc, show (128 + w % 128) % 128 = w % 128 by omega, ← Nat.mul_assoc, ← Nat.add_mul]
          congr 2
          omega
        · simp only [List.length_cons]; omega
      · rw [Nat.div_lt_iff_lt_mul (by decide)]
        calc w < 2 ^ (64 - 7 * i) := hw
          _ = 2 ^ (64 - 7 * (i + 1)) * 128 := by rw [show (128 : Nat) = 2 ^ 7 from rfl, ← Nat.pow_add, show 64 - 7 * (i + 1) + 7 = 64 - 7 * i by omega]
      · rintro (⟨h1, h2⟩ | ⟨h1, h2⟩)
        · omega
        · exact h9 h2

/-- A beginning of what is written ends too early. -/
theorem rdU_part : ∀ {w acc i k : Nat}, k < (uintB w).length → i + (uintB w).length ≤ 10 → rdU acc i ((uintB w).take k) = .ended := by
  intro w
  induction w using Nat.strongRecOn with
  | _ w ih =>
    intro acc i k hk hi
    by_cases h : w < 128
    · rw [uintB_lt h] at hk ⊢
      have : k = 0 := by simpa using hk
      subst this
      rfl
    · rw [uintB_ge h] at hk hi ⊢
      cases k with
      | zero => rfl
      | succ k =>
        have hp := uintB_pos (w / 128)
        simp only [List.length_cons] at hk hi
        rw [List.take_succ_cons, rdU, if_neg (by omega), if_neg (by omega)]
        exact ih (w / 128) (by omega) (by omega) (by omega)
theorem uintB_len : ∀ {w i : Nat}, w < 2 ^ (64 - 7 * i) → i ≤ 9 → i + (uintB w).length ≤ 10 := by
  intro w
  induction w using Nat.strongRecOn with
  | _ w ih =>
    intro i hw hi
    by_cases h : w < 128
    · rw [uintB_lt h]; simp only [List.length_singleton]; omega
    · have h9 : i ≠ 9 := by
        intro e
        subst e
        have : w < 2 := by simpa using hw
        omega
      rw [uintB_ge h]
      have := ih (w / 128) (by omega) (i := i + 1) (by
        rw [Nat.div_lt_iff_lt_mul (by decide)]
        calc w < 2 ^ (64 - 7 * i) := hw
          _ = 2 ^ (64 - 7 * (i + 1)) * 128 := by rw [show (128 : Nat) = 2 ^ 7 from rfl, ← Nat.pow_add, show 64 - 7 * (i + 1) + 7 = 64 - 7 * i by omega]) (by omega)
      simp only [List.length_cons]
      omega

end Go.Nm
