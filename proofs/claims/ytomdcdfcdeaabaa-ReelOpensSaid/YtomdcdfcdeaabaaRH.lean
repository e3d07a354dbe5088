/-
  Records, plainly.
-/
import Derived.Test.YtomdcdfcdeaabaaRG
set_option linter.unusedVariables false
set_option linter.unusedSimpArgs false
namespace Go.Nm
open Go
structure Rc where
  kind : Int
  data : List Int
  deriving DecidableEq
def bodyB (r : Rc) : List Int := sealB (uintB r.kind.toNat ++ r.data)
def recB (r : Rc) : List Int := uintB (bodyB r).length ++ bodyB r
structure Rc.ok (r : Rc) : Prop where
  k0 : 0 ≤ r.kind
  k1 : r.kind ≤ 255
  len : r.data.length ≤ 262144
  by' : isBytes r.data
def recM (b : List Int) : Option Rc := if (openM b).1 ≠ 0 then none else match rdU 0 0 (openM b).2 with
  | .ok kind j => if 255 < kind ∨ 262144 < (openM b).2.length - j then none else some ⟨kind, (openM b).2.drop j⟩
  | _ => none
def oneM (b : List Int) : Option (Rc × Nat) := match rdU 0 0 b with
  | .ok n k => if b.length < k + n then none else (recM ((b.drop k).take n)).map fun r => (r, k + n)
  | _ => none
def scanF : Nat → List Int → List Rc × Nat
  | 0, _ => ([], 0)
  | f + 1, b => match oneM b with
    | none => ([], 0)
    | some (r, n) => (r :: (scanF f (b.drop n)).1, n + (scanF f (b.drop n)).2)
def scanM (b : List Int) : List Rc × Nat := scanF b.length b

theorem openM_sub {b : List Int} (hb : isBytes b) : isBytes (openM b).2 := by
  unfold openM
  split
  · intro x hx; cases hx
  · split
    · exact isBytes_take _ hb
    · intro x hx; cases hx
theorem uintB_len2 {u : Nat} (h : u ≤ 255) : (uintB u).length ≤ 2 := by
  by_cases h1 : u < 128
  · rw [uintB_lt h1]; simp
  · rw [uintB_ge h1, uintB_lt (by omega)]; simp
theorem recM_ok {b : List Int} {r : Rc} (hb : isBytes b) (h : recM b = some r) : b = bodyB r ∧ r.ok := by
  unfold recM at h
  split at h
  · cases h
  · rename_i h0
    have hp := openM_sub hb
    have h0 : (openM b).1 = 0 := Classical.not_not.1 h0
    obtain ⟨p, he⟩ : ∃ p, openM b = (0, p) := ⟨(openM b).2, by rw [← h0]⟩
    rw [he] at hp h
    dsimp only at hp h
    have hbs := openM_ok he
    split at h
    · rename_i kind j hr
      split at h
      · cases h
      · rename_i hn
        cases h
        obtain ⟨w, h1, h2, h3, h4, _, _, _⟩ := rdU_canon hp hr (by omega)
        simp only [Nat.mul_zero, Nat.pow_zero, Nat.mul_one, Nat.zero_add] at h1
        subst h1
        rw [Nat.sub_zero] at h4
        refine ⟨?_, ⟨by dsimp only; omega, by dsimp only; omega, by simp only [List.length_drop]; omega, isBytes_drop _ hp⟩⟩
        unfold bodyB
        dsimp only
        rw [Int.toNat_natCast, h4, List.take_append_drop]
        exact hbs
    · cases h
theorem recM_body {r : Rc} (h : r.ok) : recM (bodyB r) = some r := by
  have h0 := h.k0
  have h1 := h.k1
  have h2 := h.len
  unfold recM bodyB
  rw [openM_seal, if_neg (by simp)]
  dsimp only
  rw [rdU_uintB r.data (by omega) (by omega) (fun hf => absurd hf (by omega))]
  simp only [Nat.mul_zero, Nat.pow_zero, Nat.mul_one, Nat.zero_add]
  rw [if_neg, List.drop_left, Int.toNat_of_nonneg h0]
  rw [List.length_append]
  omega
theorem bodyB_len {r : Rc} (h : r.ok) : (bodyB r).length ≤ 262150 ∧ 5 ≤ (bodyB r).length := by
  have h0 := h.k0
  have h1 := h.k1
  have h2 := h.len
  unfold bodyB
  rw [sealB_len, List.length_append]
  have := uintB_len2 (u := r.kind.toNat) (by omega)
  have := uintB_pos r.kind.toNat
  omega
theorem bodyB_bytes {r : Rc} (h : r.ok) : isBytes (bodyB r) := sealB_bytes (isBytes_append (uintB_bytes _) h.by')
theorem recB_bytes {r : Rc} (h : r.ok) : isBytes (recB r) := isBytes_append (uintB_bytes _) (bodyB_bytes h)
theorem uintB_len3 {u : Nat} (h : u ≤ 262150) : (uintB u).length ≤ 3 := by
  by_cases h1 : u < 128
  · rw [uintB_lt h1]; simp
  · rw [uintB_ge h1]
    by_cases h2 : u / 128 < 128
    · rw [uintB_lt h2]; simp
    · rw [uintB_ge h2, uintB_lt (by omega)]; simp
theorem recB_len {r : Rc} (h : r.ok) : (recB r).length ≤ 262153 ∧ 6 ≤ (recB r).length ∧ (recB r).length ≤ r.data.length + 9 := by
  have h1 := bodyB_len h
  have h2 := uintB_len3 h1.1
  have h3 := uintB_pos (bodyB r).length
  have h5 := h.k1
  have h6 := uintB_len2 (u := r.kind.toNat) (by omega)
  have h4 : (bodyB r).length = (uintB r.kind.toNat).length + r.data.length + 4 := by unfold bodyB; rw [sealB_len, List.length_append]
  unfold recB
  rw [List.length_append]
  omega
theorem recM_long {b : List Int} (hb : isBytes b) (h : 262150 < b.length) : recM b = none := by
  cases hr : recM b with
  | none => rfl
  | some r =>
    obtain ⟨h1, h2⟩ := recM_ok hb hr
    have := bodyB_len h2
    rw [h1] at h
    omega

/-- A record that is read is the one that is written there. -/
theorem oneM_ok {b : List Int} {r : Rc} {n : Nat} (hb : isBytes b) (h : oneM b = some (r, n)) : r.ok ∧ n ≤ b.length ∧ b.take n = recB r ∧ 0 < n := by
  unfold oneM at h
  split at h
  · rename_i m k hr
    obtain ⟨w, h1, h2, h3, h4, _, _, _⟩ := rdU_canon hb hr (by omega)
    simp only [Nat.mul_zero, Nat.pow_zero, Nat.mul_one, Nat.zero_add] at h1
    subst h1
    rw [Nat.sub_zero] at h4
    split at h
    · cases h
    · rename_i hn
      rw [Option.map_eq_some_iff] at h
      obtain ⟨r', h5, h6⟩ := h
      cases h6
      obtain ⟨h7, h8⟩ := recM_ok (isBytes_take _ (isBytes_drop _ hb)) h5
      refine ⟨h8, by omega, ?_, by omega⟩
      have hlen : (bodyB r).length = m := by rw [← h7, List.length_take, List.length_drop]; omega
      unfold recB
      rw [hlen, h4, ← h7, ← List.take_add]
  · cases h
theorem oneM_rec {r : Rc} (h : r.ok) (rest : List Int) : oneM (recB r ++ rest) = some (r, (recB r).length) := by
  have h1 := bodyB_len h
  unfold oneM recB
  rw [List.append_assoc, rdU_uintB (bodyB r ++ rest) (by omega) (by omega) (fun hf => absurd hf (by omega))]
  simp only [Nat.mul_zero, Nat.pow_zero, Nat.mul_one, Nat.zero_add]
  rw [if_neg (by simp only [List.length_append]; omega), List.drop_left, List.take_left, recM_body h]
  simp
theorem oneM_part {r : Rc} (h : r.ok) {k : Nat} (hk : k < (recB r).length) : oneM ((recB r).take k) = none := by
  have h1 := bodyB_len h
  have h3 := uintB_len3 h1.1
  unfold recB at hk ⊢
  rw [List.length_append] at hk
  rcases Nat.lt_or_ge k (uintB (bodyB r).length).length with h2 | h2
  · rw [List.take_append_of_le_length (by omega)]
    unfold oneM
    rw [rdU_part h2 (by omega)]
  · rw [List.take_append, List.take_of_length_le h2]
    unfold oneM
    rw [rdU_uintB _ (by omega) (by omega) (fun hf => absurd hf (by omega))]
    simp only [Nat.mul_zero, Nat.pow_zero, Nat.mul_one, Nat.zero_add]
    rw [if_pos]
    simp only [List.length_append, List.length_take]
    omega
theorem oneM_nil : oneM [] = none := rfl

theorem scanF_fuel : ∀ {f : Nat} {b : List Int}, isBytes b → b.length ≤ f → scanF f b = scanM b := by
  have : ∀ {n f g : Nat} {b : List Int}, isBytes b → b.length ≤ n → b.length ≤ f → b.length ≤ g → scanF f b = scanF g b := by
    intro n
    induction n with
    | zero =>
      intro f g b hb hn _ _
      have : b = [] := List.length_eq_zero_iff.1 (by omega)
      subst this
      cases f <;> cases g <;> rfl
    | succ n ih =>
      intro f g b hb hn hf hg
      cases b with
      | nil => cases f <;> cases g <;> rfl
      | cons x b =>
        cases f with
        | zero => simp at hf
        | succ f =>
          cases g with
          | zero => simp at hg
          | succ g =>
            simp only [scanF]
            cases h : oneM (x :: b) with
            | none => rfl
            | some p =>
              obtain ⟨r, m⟩ := p
              have hp := (oneM_ok hb h).2.2.2
              have hd : ((x :: b).drop m).length ≤ (x :: b).length - 1 := by rw [List.length_drop]; omega
              simp only [List.length_cons] at hn hf hg hd
              have := ih (f := f) (g := g) (b := (x :: b).drop m) (isBytes_drop _ hb) (by omega) (by omega) (by omega)
              dsimp only
              rw [this]
  intro f b hb h
  exact this (n := b.length) hb (Nat.le_refl _) h (Nat.le_refl _)
theorem scanM_none {b : List Int} (h : oneM b = none) : scanM b = ([], 0) := by
  unfold scanM
  cases b with
  | nil => rfl
  | cons x b => simp only [List.length_cons, scanF, h]
theorem scanM_some {b : List Int} {r : Rc} {n : Nat} (hb : isBytes b) (h : oneM b = some (r, n)) : scanM b = (r :: (scanM (b.drop n)).1, n + (scanM (b.drop n)).2) := by
  have hp := (oneM_ok hb h).2.2.2
  have e : scanM b = scanF (b.length + 1) b := (scanF_fuel hb (by omega)).symm
  rw [e]
  simp only [scanF, h]
  rw [scanF_fuel (isBytes_drop _ hb) (by rw [List.length_drop]; omega)]
theorem scanM_nil : scanM [] = ([], 0) := rfl
theorem scanM_app {r : Rc} (h : r.ok) {rest : List Int} (hr : isBytes rest) : scanM (recB r ++ rest) = (r :: (scanM rest).1, (recB r).length + (scanM rest).2) := by
  rw [scanM_some (isBytes_append (recB_bytes h) hr) (oneM_rec h rest), List.drop_left]
theorem recsB_bytes {rs : List Rc} (h : ∀ r ∈ rs, r.ok) : isBytes (rs.flatMap recB) := by
  intro x hx
  obtain ⟨r, hr, hx⟩ := List.mem_flatMap.1 hx
  exact recB_bytes (h r hr) x hx
/-- Whole records, then something that is none's. -/
theorem scanM_whole : ∀ {rs : List Rc} {t : List Int}, (∀ r ∈ rs, r.ok) → isBytes t → oneM t = none → scanM (rs.flatMap recB ++ t) = (rs, (rs.flatMap recB).length)
  | [], t, _, _, ht => by simp [scanM_none ht]
  | r :: rs, t, h, hb, ht => by
    have h1 := h r List.mem_cons_self
    have h2 : ∀ x ∈ rs, x.ok := fun x hx => h x (List.mem_cons_of_mem _ hx)
    rw [List.flatMap_cons, List.append_assoc, scanM_app h1 (isBytes_append (recsB_bytes h2) hb), scanM_whole h2 hb ht]
    simp
theorem scanM_recs {rs : List Rc} (h : ∀ r ∈ rs, r.ok) : scanM (rs.flatMap recB) = (rs, (rs.flatMap recB).length) := by
  have := scanM_whole (t := []) h (fun x hx => by cases hx) rfl
  rwa [List.append_nil] at this
/-- What is told is what stands there. -/
theorem scanM_ok : ∀ {n : Nat} {b : List Int}, b.length ≤ n → isBytes b → (∀ r ∈ (scanM b).1, r.ok) ∧ (scanM b).2 ≤ b.length ∧ (scanM b).1.flatMap recB = b.take (scanM b).2
  | n, b, hn, hb => by
    cases h : oneM b with
    | none => rw [scanM_none h]; exact ⟨fun r hr => (by cases hr), Nat.zero_le _, rfl⟩
    | some p =>
      obtain ⟨r, m⟩ := p
      obtain ⟨h1, h2, h3, h4⟩ := oneM_ok hb h
      rw [scanM_some hb h]
      cases n with
      | zero => omega
      | succ n =>
        obtain ⟨i1, i2, i3⟩ := scanM_ok (n := n) (b := b.drop m) (by rw [List.length_drop]; omega) (isBytes_drop _ hb)
        rw [List.length_drop] at i2
        refine ⟨fun x hx => ?_, by dsimp only; omega, ?_⟩
        · rcases List.mem_cons.1 hx with rfl | hx
          · exact h1
          · exact i1 x hx
        · rw [List.flatMap_cons, i3, ← h3, List.take_add]

/-- A text, then its record. -/
theorem one_text {b : List Int} (hb : isBytes b) :
    ((∃ e, e ≠ 0 ∧ tRes 262150 ⟨0, b⟩ = ([], ⟨e, b⟩)) ∧ oneM b = none) ∨
    ∃ k n, (tRes 262150 ⟨0, b⟩) = ((b.drop k).take n, ⟨0, b.drop (k + n)⟩) ∧ k + n ≤ b.length ∧ 0 < k ∧ oneM b = (recM ((b.drop k).take n)).map fun r => (r, k + n) := by
  unfold tRes oneM
  simp only [ne_eq, not_true_eq_false, if_false]
  cases hr : rdU 0 0 b with
  | form => exact .inl ⟨⟨10, by decide, rfl⟩, rfl⟩
  | ended => exact .inl ⟨⟨15, by decide, rfl⟩, rfl⟩
  | ok n k =>
    have hk := rdU_size hb hr
    dsimp only
    by_cases h1 : (max 262150 0 : Int) < n
    · rw [if_pos h1]
      refine .inl ⟨⟨17, by decide, rfl⟩, ?_⟩
      split
      · rfl
      · rw [recM_long (isBytes_take _ (isBytes_drop _ hb)) (by rw [List.length_take, List.length_drop]; omega)]
        rfl
    · rw [if_neg h1]
      by_cases h2 : b.length < k + n
      · rw [if_pos h2, if_pos h2]
        exact .inl ⟨⟨15, by decide, rfl⟩, rfl⟩
      · rw [if_neg h2, if_neg h2]
        exact .inr ⟨k, n, rfl, by omega, hk.1, rfl⟩
/-- The code's way to a record. -/
theorem recM_count {b : List Int} (hb : isBytes b) (h0 : (openM b).1 = 0) :
    ((∃ e, e ≠ 0 ∧ cRes 255 ⟨0, (openM b).2⟩ = (0, ⟨e, (openM b).2⟩)) ∧ recM b = none) ∨
    (∃ kind j : Nat, cRes 255 ⟨0, (openM b).2⟩ = ((kind : Int), ⟨0, (openM b).2.drop j⟩) ∧ j ≤ (openM b).2.length ∧ recM b = if 262144 < (openM b).2.length - j then none else some ⟨kind, (openM b).2.drop j⟩) := by
  have hp := openM_sub hb
  unfold recM cRes
  obtain ⟨p, he⟩ : ∃ p, openM b = (0, p) := ⟨(openM b).2, by rw [← h0]⟩
  rw [he] at hp ⊢
  dsimp only at hp ⊢
  simp only [ne_eq, not_true_eq_false, if_false]
  cases hr : rdU 0 0 p with
  | form => exact .inl ⟨⟨10, by decide, rfl⟩, rfl⟩
  | ended => exact .inl ⟨⟨15, by decide, rfl⟩, rfl⟩
  | ok n k =>
    have hk := rdU_size hp hr
    dsimp only
    by_cases h1 : (max 255 0 : Int) < n
    · rw [if_pos h1, if_pos (Or.inl (by omega))]
      exact .inl ⟨⟨17, by decide, rfl⟩, rfl⟩
    · rw [if_neg h1]
      refine .inr ⟨n, k, rfl, hk.2.1, ?_⟩
      by_cases h2 : 262144 < p.length - k
      · rw [if_pos (Or.inr h2), if_pos h2]
      · rw [if_neg (by omega), if_neg h2]
end Go.Nm
