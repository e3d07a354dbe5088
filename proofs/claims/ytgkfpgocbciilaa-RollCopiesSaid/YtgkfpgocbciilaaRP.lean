/-
  The registry, plainly: a place for each agent.
-/
import Derived.Test.YtgkfpgocbciilaaST
set_option linter.unusedVariables false
set_option linter.unusedSimpArgs false
namespace Go.Nm
open Go

structure En where
  epoch : Int
  boot : Int
  time : Int
deriving DecidableEq
def En.z : En := ⟨0, 0, 0⟩
abbrev encE (e : En) : List Value := [.int .i64 e.epoch, .int .i64 e.boot, .int .i64 e.time]
abbrev aggE (e : En) : Value := .agg #[.int .i64 e.epoch, .int .i64 e.boot, .int .i64 e.time]

/-- The entries that are known, from a place on. -/
def tab : Nat → List En → List (Int × En)
  | _, [] => []
  | i, e :: r => if 0 < e.epoch then ((i : Int), e) :: tab (i + 1) r else tab (i + 1) r

theorem tab_keys {i : Nat} : ∀ {l : List En} {p : Int × En}, p ∈ tab i l → (i : Int) ≤ p.1 ∧ p.1 < i + l.length ∧ 0 < p.2.epoch
  | [], p, h => by simp [tab] at h
  | e :: r, p, h => by
    simp only [tab] at h
    have ih := tab_keys (i := i + 1) (l := r) (p := p)
    simp only [List.length_cons]
    split at h
    · rcases List.mem_cons.1 h with rfl | h
      · rename_i hp; simp only; omega
      · have := ih h; omega
    · have := ih h; omega
theorem tab_rising {i : Nat} : ∀ {l : List En}, (keysOf (tab i l)).Pairwise (· < ·)
  | [] => by simp [tab]
  | e :: r => by
    simp only [tab]
    split
    · simp only [keysOf, List.map_cons, List.pairwise_cons]
      refine ⟨fun a ha => ?_, tab_rising⟩
      obtain ⟨p, hp, rfl⟩ := List.mem_map.1 ha
      have := tab_keys hp; omega
    · exact tab_rising
theorem tab_nodup {i : Nat} {l : List En} : (keysOf (tab i l)).Nodup := tab_rising.imp (fun h => by omega)
theorem tab_sorted {i : Nat} {l : List En} : sortI (keysOf (tab i l)) = keysOf (tab i l) := sortI_of_sorted (tab_rising.imp (fun h => by omega))

theorem tab_look {i : Nat} : ∀ {l : List En} {k : Nat}, mlook ((i + k : Nat) : Int) (tab i l) = match l[k]? with | some e => if 0 < e.epoch then some e else none | none => none
  | [], k => by simp [tab, mlook]
  | e :: r, 0 => by
    have hn : mlook ((i + 0 : Nat) : Int) (tab (i + 1) r) = none := mlook_none.2 fun h => by
      obtain ⟨p, hp, he⟩ := List.mem_map.1 h
      have := tab_keys hp; omega
    simp only [tab, List.getElem?_cons_zero]
    split
    · simp [mlook]
    · exact hn
  | e :: r, k + 1 => by
    have ih := tab_look (i := i + 1) (l := r) (k := k)
    rw [show i + 1 + k = i + (k + 1) by omega] at ih
    simp only [tab, List.getElem?_cons_succ]
    split
    · simp only [mlook]
      rw [if_neg (by omega)]; exact ih
    · exact ih

theorem tab_set {i : Nat} {x : En} (hx : 0 < x.epoch) : ∀ {l : List En} {k : Nat}, k < l.length → (tab i (l.set k x)).Perm (mset ((i + k : Nat) : Int) x (tab i l))
  | e :: r, 0, _ => by
    have hd : mdel ((i + 0 : Nat) : Int) (tab (i + 1) r) = tab (i + 1) r := mdel_of_none (mlook_none.2 fun h => by
      obtain ⟨p, hp, he⟩ := List.mem_map.1 h
      have := tab_keys hp; omega)
    simp only [List.set_cons_zero, tab, if_pos hx]
    have e2 : mdel ((i + 0 : Nat) : Int) (if 0 < e.epoch then ((i : Int), e) :: tab (i + 1) r else tab (i + 1) r) = tab (i + 1) r := by
      split
      · have : mdel ((i + 0 : Nat) : Int) (((i : Int), e) :: tab (i + 1) r) = mdel ((i + 0 : Nat) : Int) (tab (i + 1) r) := by simp [mdel]
        rw [this, hd]
      · exact hd
    unfold mset
    rw [e2]; exact .refl _
  | e :: r, k + 1, h => by
    have ih := tab_set (i := i + 1) hx (l := r) (k := k) (by simpa using h)
    rw [show i + 1 + k = i + (k + 1) by omega] at ih
    simp only [List.set_cons_succ, tab]
    split
    · refine (ih.cons _).trans ?_
      unfold mset
      have : mdel ((i + (k + 1) : Nat) : Int) (((i : Int), e) :: tab (i + 1) r) = ((i : Int), e) :: mdel ((i + (k + 1) : Nat) : Int) (tab (i + 1) r) := by
        have hne : ¬ (i : Int) = ((i + (k + 1) : Nat) : Int) := by omega
        simp [mdel, List.filter_cons, hne]
        omega
      rw [this]
      exact .swap _ _ _
    · exact ih

/-- How many are known. -/
theorem tab_length {i : Nat} : ∀ {l : List En}, (tab i l).length = (l.filter fun e => decide (0 < e.epoch)).length
  | [] => rfl
  | e :: r => by
    simp only [tab, List.filter_cons]
    have := tab_length (i := i + 1) (l := r)
    by_cases h : 0 < e.epoch <;> simp [h, this]

/-- What stands first from a place on. -/
theorem tab_first {l : List En} : ∀ {n f : Nat} {a : Int} {e : En} {r : List (Int × En)}, l.length - f ≤ n → tab f (l.drop f) = (a, e) :: r →
    ∃ k : Nat, a = k ∧ f ≤ k ∧ k < l.length ∧ l[k]? = some e ∧ 0 < e.epoch ∧ (∀ p : Nat, f ≤ p → p < k → ∀ x : En, l[p]? = some x → ¬ 0 < x.epoch) ∧ tab (k + 1) (l.drop (k + 1)) = r
  | 0, f, a, e, r, hn, h => by
    rw [List.drop_of_length_le (by omega)] at h; simp [tab] at h
  | n + 1, f, a, e, r, hn, h => by
    by_cases hf : f < l.length
    · rw [List.drop_eq_getElem_cons hf] at h
      simp only [tab] at h
      by_cases h0 : 0 < l[f].epoch
      · rw [if_pos h0] at h
        obtain ⟨h1, h2⟩ := List.cons.inj h
        cases h1
        exact ⟨f, rfl, Nat.le_refl _, hf, by rw [List.getElem?_eq_getElem hf], h0, fun p h1 h2 => by omega, h2⟩
      · rw [if_neg h0] at h
        obtain ⟨k, h1, h2, h3, h4, h5, h6, h7⟩ := tab_first (n := n) (f := f + 1) (by omega) h
        refine ⟨k, h1, by omega, h3, h4, h5, fun p hp1 hp2 x hx => ?_, h7⟩
        by_cases hpf : p = f
        · subst hpf; rw [List.getElem?_eq_getElem hf] at hx; cases hx; exact h0
        · exact h6 p (by omega) hp2 x hx
    · rw [List.drop_of_length_le (by omega)] at h; simp [tab] at h
theorem tab_none {i : Nat} : ∀ {l : List En}, tab i l = [] → ∀ (p : Nat) (x : En), l[p]? = some x → ¬ 0 < x.epoch
  | [], _, p, x, h => by simp at h
  | e :: r, h, p, x, hx => by
    simp only [tab] at h
    split at h
    · cases h
    · rename_i h0
      cases p with
      | zero => simp at hx; subst hx; exact h0
      | succ p => exact tab_none h p x (by simpa using hx)

/-! ### what is asked -/
abbrev bad (agent boot now : Int) : Prop := agent < 0 ∨ 63 < agent ∨ boot < 1 ∨ 1099511627776 < boot ∨ now < 0 ∨ 4611686018427387903 < now
def rowE (rows : List En) (agent : Int) : En := if agent < 0 then En.z else (rows[agent.toNat]?).getD En.z
structure RowsOk (rows : List En) : Prop where
  len : rows.length = 64
  ep : ∀ e ∈ rows, 0 ≤ e.epoch ∧ e.epoch ≤ 1099511627776
  in64 : ∀ e ∈ rows, wf64 e.boot ∧ wf64 e.time
  zero : ∀ e ∈ rows, ¬ 0 < e.epoch → e = En.z
abbrev full (most : Int) (rows : List En) : Prop := most ≤ ((tab 0 rows).length : Int)
/-- Grant: the rows behind it, the entry, whether it is new, the error. -/
def grant (most : Int) (rows : List En) (agent boot now : Int) : List En × En × Bool × Int :=
  if bad agent boot now then (rows, En.z, false, 11) else
  let x := rowE rows agent
  if 0 < x.epoch ∧ x.boot = boot then (rows, x, false, 0)
  else if 0 < x.epoch ∧ boot < x.boot then (rows, En.z, false, 22)
  else if x.epoch = 1099511627776 then (rows, En.z, false, 17)
  else if x.epoch = 0 ∧ full most rows then (rows, En.z, false, 20)
  else (rows.set agent.toNat ⟨x.epoch + 1, boot, now⟩, ⟨x.epoch + 1, boot, now⟩, true, 0)
def setR (most : Int) (rows : List En) (agent : Int) (e : En) : List En × Int :=
  if bad agent e.boot e.time ∨ e.epoch < 1 ∨ 1099511627776 < e.epoch then (rows, 11)
  else if 0 < (rowE rows agent).epoch then (rows, 18)
  else if full most rows then (rows, 20)
  else (rows.set agent.toNat e, 0)

theorem RowsOk.at {rows : List En} (h : RowsOk rows) (agent : Int) : 0 ≤ (rowE rows agent).epoch ∧ (rowE rows agent).epoch ≤ 1099511627776 ∧ wf64 (rowE rows agent).boot ∧ wf64 (rowE rows agent).time := by
  unfold rowE
  split
  · simp [En.z, wf64]
  cases he : rows[agent.toNat]? with
  | none => simp [En.z, wf64]
  | some e => exact ⟨(h.ep e (List.mem_of_getElem? he)).1, (h.ep e (List.mem_of_getElem? he)).2, h.in64 e (List.mem_of_getElem? he)⟩
theorem RowsOk.set {rows : List En} (h : RowsOk rows) {k : Nat} {x : En} (h1 : 0 < x.epoch ∧ x.epoch ≤ 1099511627776) (h2 : wf64 x.boot ∧ wf64 x.time) : RowsOk (rows.set k x) where
  len := by simp [h.len]
  ep e he := by
    rcases List.mem_or_eq_of_mem_set he with he | rfl
    · exact h.ep e he
    · omega
  in64 e he := by
    rcases List.mem_or_eq_of_mem_set he with he | rfl
    · exact h.in64 e he
    · exact h2
  zero e he := by
    rcases List.mem_or_eq_of_mem_set he with he | rfl
    · exact h.zero e he
    · omega
theorem grant_ok {most : Int} {rows : List En} (h : RowsOk rows) (agent boot now : Int) : RowsOk (grant most rows agent boot now).1 := by
  unfold grant
  have := h.at agent
  split
  · exact h
  · rename_i hb
    simp only [bad, not_or, Int.not_lt] at hb
    simp only
    split
    · exact h
    · split
      · exact h
      · split
        · exact h
        · split
          · exact h
          · exact h.set ⟨by simp only; omega, by simp only; omega⟩ ⟨by simp only [wf64]; omega, by simp only [wf64]; omega⟩
theorem setR_ok {most : Int} {rows : List En} (h : RowsOk rows) (agent : Int) (e : En) : RowsOk (setR most rows agent e).1 := by
  unfold setR
  split
  · exact h
  · rename_i hb
    simp only [bad, not_or, Int.not_lt] at hb
    split
    · exact h
    · split
      · exact h
      · exact h.set ⟨by omega, by omega⟩ ⟨by simp only [wf64]; omega, by simp only [wf64]; omega⟩
theorem look_row {rows : List En} (agent : Int) : mlook agent (tab 0 rows) = if 0 < (rowE rows agent).epoch then some (rowE rows agent) else none := by
  by_cases h0 : agent < 0
  · have : mlook agent (tab 0 rows) = none := mlook_none.2 fun h => by
      obtain ⟨p, hp, he⟩ := List.mem_map.1 h
      have := tab_keys hp; omega
    rw [this, rowE, if_pos h0]; rfl
  · have := tab_look (i := 0) (l := rows) (k := agent.toNat)
    rw [show ((0 + agent.toNat : Nat) : Int) = agent by omega] at this
    rw [this]
    unfold rowE
    rw [if_neg h0]
    cases rows[agent.toNat]? with
    | none => simp [En.z]
    | some e => simp
theorem RowsOk.rowZ {rows : List En} (h : RowsOk rows) (agent : Int) (h0 : ¬ 0 < (rowE rows agent).epoch) : rowE rows agent = En.z := by
  unfold rowE at h0 ⊢
  split
  · rfl
  rename_i hn
  rw [if_neg hn] at h0
  cases he : rows[agent.toNat]? with
  | none => rfl
  | some e => rw [he] at h0; exact h.zero e (List.mem_of_getElem? he) h0
theorem look_get {rows : List En} (h : RowsOk rows) {agent : Int} : (mlook agent (tab 0 rows)).getD En.z = rowE rows agent := by
  rw [look_row]
  split
  · rfl
  · rename_i hp; exact (h.rowZ agent hp).symm
theorem look_is {rows : List En} (h : RowsOk rows) {agent : Int} : (mlook agent (tab 0 rows)).isSome = decide (0 < (rowE rows agent).epoch) := by
  rw [look_row]
  split
  · rename_i hp; simp [hp]
  · rename_i hp; simp [hp]
theorem rowsOk_new : RowsOk (List.replicate 64 En.z) where
  len := by simp
  ep e he := by rw [List.eq_of_mem_replicate he]; decide
  in64 e he := by rw [List.eq_of_mem_replicate he]; simp [En.z, wf64]
  zero e he _ := List.eq_of_mem_replicate he
theorem tab_le {rows : List En} (h : RowsOk rows) : (tab 0 rows).length ≤ 64 := by
  rw [tab_length]
  exact Nat.le_trans (List.length_filter_le _ _) (Nat.le_of_eq h.len)
end Go.Nm
