/-
  More of the registry, plainly.
-/
import Derived.Test.YtgkfpgocbciilaaRP
set_option linter.unusedVariables false
set_option linter.unusedSimpArgs false
namespace Go.Nm
open Go

theorem tab_append : ∀ {a b : List En} {i : Nat}, tab i (a ++ b) = tab i a ++ tab (i + a.length) b
  | [], b, i => by simp [tab]
  | e :: r, b, i => by
    simp only [List.cons_append, tab, List.length_cons]
    rw [tab_append, show i + 1 + r.length = i + (r.length + 1) by omega]
    split <;> rfl
theorem tab_rep {n i : Nat} : tab i (List.replicate n En.z) = [] := by
  induction n generalizing i with
  | zero => rfl
  | succ n ih => simp only [List.replicate_succ, tab, En.z]; rw [if_neg (by decide)]; exact ih
theorem tab_split (rows : List En) {f : Nat} (hf : f ≤ rows.length) : tab 0 rows = tab 0 (rows.take f) ++ tab f (rows.drop f) := by
  have := tab_append (a := rows.take f) (b := rows.drop f) (i := 0)
  rw [List.take_append_drop, List.length_take, Nat.min_eq_left hf, Nat.zero_add] at this
  exact this

/-- The rows up to a place; nothing behind it. -/
def upto (f : Nat) (rows : List En) : List En := rows.take f ++ List.replicate (64 - f) En.z
theorem upto_zero (rows : List En) : upto 0 rows = List.replicate 64 En.z := by simp [upto]
theorem tab_upto (rows : List En) {f : Nat} : tab 0 (upto f rows) = tab 0 (rows.take f) := by
  unfold upto
  rw [tab_append, tab_rep, List.append_nil]
theorem upto_ok {rows : List En} (h : RowsOk rows) {f : Nat} (hf : f ≤ 64) : RowsOk (upto f rows) where
  len := by simp [upto, h.len]; omega
  ep e he := by
    rcases List.mem_append.1 he with he | he
    · exact h.ep e (List.mem_of_mem_take he)
    · rw [List.eq_of_mem_replicate he]; decide
  in64 e he := by
    rcases List.mem_append.1 he with he | he
    · exact h.in64 e (List.mem_of_mem_take he)
    · rw [List.eq_of_mem_replicate he]; simp [En.z, wf64]
  zero e he hp := by
    rcases List.mem_append.1 he with he | he
    · exact h.zero e (List.mem_of_mem_take he) hp
    · exact List.eq_of_mem_replicate he
theorem upto_set {rows : List En} (h : RowsOk rows) {f k : Nat} {e : En} (hk : k < rows.length) (hf : f ≤ k) (he : rows[k]? = some e) (hz : ∀ p : Nat, f ≤ p → p < k → ∀ x : En, rows[p]? = some x → ¬ 0 < x.epoch) :
    (upto f rows).set k e = upto (k + 1) rows := by
  have hl := h.len
  apply List.ext_getElem?
  intro p
  have hlu : (upto f rows).length = 64 := (upto_ok h (by omega)).len
  rw [List.getElem?_set]
  have hget : ∀ g, g ≤ 64 → (upto g rows)[p]? = if p < g then rows[p]? else if p < 64 then some En.z else none := by
    intro g hg
    unfold upto
    by_cases hp : p < g
    · rw [if_pos hp, List.getElem?_append_left (by rw [List.length_take]; omega), List.getElem?_take_of_lt hp]
    · rw [if_neg hp, List.getElem?_append_right (by rw [List.length_take]; omega), List.length_take, List.getElem?_replicate]
      by_cases h64 : p < 64
      · rw [if_pos h64, if_pos (by omega)]
      · rw [if_neg h64, if_neg (by omega)]
  rw [hlu, hget f (by omega), hget (k + 1) (by omega)]
  by_cases h1 : k = p
  · subst h1
    rw [if_pos rfl, if_pos (by omega), if_pos (by omega), he]
  · rw [if_neg h1]
    by_cases h2 : p < f
    · rw [if_pos h2, if_pos (by omega)]
    · rw [if_neg h2]
      by_cases h3 : p < k
      · rw [if_pos (by omega), if_pos (by omega), List.getElem?_eq_getElem (by omega)]
        congr 1
        exact (h.zero _ (List.getElem_mem _) (hz p (by omega) h3 _ (List.getElem?_eq_getElem (by omega)))).symm
      · rw [if_neg (show ¬ p < k + 1 by omega)]
theorem upto_all {rows : List En} (h : RowsOk rows) {f : Nat} (hf : f ≤ 64) (hz : tab f (rows.drop f) = []) : upto f rows = rows := by
  have hl := h.len
  unfold upto
  have : rows.drop f = List.replicate (64 - f) En.z := by
    apply List.ext_getElem?
    intro p
    by_cases hp : p < 64 - f
    · rw [List.getElem?_replicate, if_pos hp, List.getElem?_eq_getElem (by rw [List.length_drop]; omega)]
      congr 1
      exact h.zero _ (List.mem_of_mem_drop (List.getElem_mem _)) (tab_none hz p _ (List.getElem?_eq_getElem (by rw [List.length_drop]; omega)))
    · rw [List.getElem?_eq_none (by rw [List.length_drop]; omega), List.getElem?_replicate, if_neg hp]
  rw [← this, List.take_append_drop]

/-- What has been granted is within its bounds. -/
def RollIn (most : Int) (rows : List En) : Prop := (∀ e ∈ rows, 0 < e.epoch → 1 ≤ e.boot ∧ e.boot ≤ 1099511627776 ∧ 0 ≤ e.time ∧ e.time ≤ 4611686018427387903) ∧ ((tab 0 rows).length : Int) ≤ most
theorem rowsIn_new {most : Int} (h : 0 ≤ most) : RollIn most (List.replicate 64 En.z) := ⟨fun e he hp => by rw [List.eq_of_mem_replicate he] at hp; exact absurd hp (by decide), by rw [tab_rep]; exact h⟩

theorem grant_cases (most : Int) {rows : List En} (ok : RowsOk rows) (agent boot now : Int) :
    (∃ er, er ≠ 0 ∧ grant most rows agent boot now = (rows, En.z, false, er)) ∨
    (0 < (rowE rows agent).epoch ∧ (rowE rows agent).boot = boot ∧ grant most rows agent boot now = (rows, rowE rows agent, false, 0)) ∨
    (0 ≤ agent ∧ agent.toNat < rows.length ∧ 1 ≤ boot ∧ boot ≤ 1099511627776 ∧ 0 ≤ now ∧ now ≤ 4611686018427387903 ∧ 0 ≤ (rowE rows agent).epoch ∧ (rowE rows agent).epoch < 1099511627776 ∧ (0 < (rowE rows agent).epoch → (rowE rows agent).boot < boot) ∧
      ((rowE rows agent).epoch = 0 → ((tab 0 rows).length : Int) < most) ∧
      grant most rows agent boot now = (rows.set agent.toNat ⟨(rowE rows agent).epoch + 1, boot, now⟩, ⟨(rowE rows agent).epoch + 1, boot, now⟩, true, 0)) := by
  have hx := ok.at agent
  have hl := ok.len
  unfold grant
  split
  · exact .inl ⟨11, by decide, rfl⟩
  rename_i hb
  simp only [bad, not_or, Int.not_lt] at hb
  simp only
  split
  · rename_i h1; exact .inr (.inl ⟨h1.1, h1.2, rfl⟩)
  rename_i h1
  split
  · exact .inl ⟨22, by decide, rfl⟩
  rename_i h2
  split
  · exact .inl ⟨17, by decide, rfl⟩
  rename_i h3
  split
  · exact .inl ⟨20, by decide, rfl⟩
  rename_i h4
  have h5 : (rowE rows agent).epoch = 0 → ((tab 0 rows).length : Int) < most := fun h => by
    have : ¬ full most rows := fun hf => h4 ⟨h, hf⟩
    unfold full at this; omega
  exact .inr (.inr ⟨by omega, by omega, by omega, by omega, by omega, by omega, by omega, by omega, fun hp => by
    have e1 : (rowE rows agent).boot ≠ boot := fun e => h1 ⟨hp, e⟩
    have e2 : ¬ boot < (rowE rows agent).boot := fun e => h2 ⟨hp, e⟩
    omega, h5, rfl⟩)

theorem tab_set_length {rows : List En} (ok : RowsOk rows) {agent : Int} (h0 : 0 ≤ agent) (hl : agent.toNat < rows.length) {x : En} (hx : 0 < x.epoch) :
    (tab 0 (rows.set agent.toNat x)).length = (tab 0 rows).length + if (rowE rows agent).epoch = 0 then 1 else 0 := by
  have hs := tab_set (i := 0) hx hl
  rw [hs.length_eq, show ((0 + agent.toNat : Nat) : Int) = agent by omega]
  have hlook := look_row (rows := rows) agent
  have ha := ok.at agent
  split
  · rename_i h
    rw [if_neg (by omega)] at hlook
    exact length_mset_new hlook
  · rename_i h
    rw [if_pos (by omega)] at hlook
    exact length_mset_old tab_nodup hlook
theorem grant_in {most : Int} {rows : List En} (ok : RowsOk rows) (hin : RollIn most rows) (agent boot now : Int) : RollIn most (grant most rows agent boot now).1 := by
  rcases grant_cases most ok agent boot now with ⟨er, _, e⟩ | ⟨_, _, e⟩ | ⟨h0, hl, b1, b2, n1, n2, e0, e1, _, h5, e⟩
  · rw [e]; exact hin
  · rw [e]; exact hin
  · rw [e]
    refine ⟨fun x hx hp => ?_, ?_⟩
    · rcases List.mem_or_eq_of_mem_set hx with hx | rfl
      · exact hin.1 x hx hp
      · exact ⟨b1, b2, n1, n2⟩
    · simp only
      rw [tab_set_length ok h0 hl (by simp only; omega)]
      have := hin.2
      split
      · rename_i hz; have := h5 hz; omega
      · omega
theorem rowE_set {rows : List En} {agent a : Int} {x : En} (h0 : 0 ≤ agent) (hl : agent.toNat < rows.length) : rowE (rows.set agent.toNat x) a = if a = agent then x else rowE rows a := by
  unfold rowE
  by_cases ha : a < 0
  · rw [if_pos ha, if_pos ha, if_neg (by omega)]
  · rw [if_neg ha, if_neg ha, List.getElem?_set]
    by_cases e : a = agent
    · subst e; rw [if_pos rfl, if_pos rfl, if_pos hl]; rfl
    · rw [if_neg e, if_neg (by omega)]
end Go.Nm
