/-
  Plain laws of the buffer.
-/
import Derived.Test.YtfgabhogcbmhoaaHP
set_option linter.unusedVariables false
set_option linter.unusedSimpArgs false
namespace Go.Nm
open Go

def iota (a : Int) : Nat → List Int
  | 0 => []
  | n + 1 => a :: iota (a + 1) n
@[simp] theorem iota_length (a : Int) : ∀ n, (iota a n).length = n
  | 0 => rfl
  | n + 1 => by simp [iota, iota_length (a + 1) n]
theorem iota_get : ∀ (a : Int) (n i : Nat) (h : i < (iota a n).length), (iota a n)[i] = a + i
  | a, 0, i, h => by simp [iota] at h
  | a, n + 1, 0, h => by simp [iota]
  | a, n + 1, i + 1, h => by
    simp only [iota, List.getElem_cons_succ]
    rw [iota_get (a + 1) n i (by simpa [iota] using h)]
    omega
theorem iota_snoc : ∀ (a : Int) (n : Nat), iota a (n + 1) = iota a n ++ [a + n]
  | a, 0 => by simp [iota]
  | a, n + 1 => by
    rw [iota, iota_snoc (a + 1) n, iota, List.cons_append]
    congr 3
    omega
theorem iota_append : ∀ (a : Int) (n m : Nat), iota a n ++ iota (a + n) m = iota a (n + m)
  | a, 0, m => by simp [iota]
  | a, n + 1, m => by
    have := iota_append (a + 1) n m
    rw [show n + 1 + m = (n + m) + 1 by omega, iota, iota, List.cons_append, ← this]
    congr 3
    omega

/-- Each item tells its number. -/
def ToldR (l : RowL) : Prop := ∀ p ∈ l, p.2 = p.1
theorem pop_told : ∀ {l : RowL} {next : Int}, ToldR l → (pop next l).1 = iota next (pop next l).1.length ∧ ToldR (pop next l).2.2
  | [], next, _ => by simp [pop, iota, ToldR]
  | (n, v) :: r, next, h => by
    simp only [pop]
    by_cases e : n = next
    · rw [if_pos e]
      obtain ⟨h1, h2⟩ := pop_told (l := r) (next := next + 1) fun p hp => h p (by simp [hp])
      have h3 := h (n, v) (by simp)
      simp only at h3
      refine ⟨?_, h2⟩
      simp only [List.length_cons, iota]
      rw [← h1, h3, e]
    · rw [if_neg e]
      exact ⟨by simp [iota], h⟩
theorem pop_keys : ∀ {l : RowL} {next : Int}, Rising l → (∀ p ∈ l, next ≤ p.1) → ∀ y, ((next ≤ y ∧ y < (pop next l).2.1) ∨ y ∈ keysOf (pop next l).2.2) ↔ y ∈ keysOf l
  | [], next, _, _, y => by simp [pop, keysOf]; try omega
  | (n, v) :: r, next, h, hb, y => by
    obtain ⟨h1, h2⟩ := List.pairwise_cons.1 h
    simp only [pop]
    by_cases e : n = next
    · rw [if_pos e]
      subst e
      have hb2 : ∀ p ∈ r, n + 1 ≤ p.1 := fun p hp => by have := h1 p hp; simp only at this; omega
      have ih := pop_keys (l := r) (next := n + 1) h2 hb2 y
      have hs := (pop_spec h2 hb2).1
      simp only [keysOf, List.map_cons, List.mem_cons] at ih ⊢
      rw [← ih]
      constructor
      · rintro (⟨a, b⟩ | a)
        · by_cases e2 : y = n
          · exact .inl e2
          · exact .inr (.inl ⟨by omega, b⟩)
        · exact .inr (.inr a)
      · rintro (a | ⟨a, b⟩ | a)
        · exact .inl ⟨by omega, by omega⟩
        · exact .inl ⟨by omega, b⟩
        · exact .inr a
    · rw [if_neg e]
      simp only
      constructor
      · rintro (⟨a, b⟩ | a)
        · omega
        · exact a
      · exact .inr

theorem offer1_told {next most n : Int} {s : RowL × Int} (h : ToldR s.1) : ToldR (offer1 next most n n s).1 := by
  unfold offer1
  split
  · exact h
  · split
    · exact h
    · intro p hp
      rcases mem_ins.1 hp with rfl | hp
      · rfl
      · exact h p hp
theorem offerL_told {next most : Int} : ∀ {k : Nat} {n : Int} {s : RowL × Int}, ToldR s.1 → ToldR (offerL next most n (iota n k) s).1
  | 0, _, _, h => h
  | k + 1, n, s, h => by simp only [iota, offerL]; exact offerL_told (offer1_told h)
/-- What comes of items that tell their numbers. -/
theorem offer_told {s : HS} (ok : s.Ok) (ht : ToldR s.rows) (first : Int) (k : Nat) :
    ToldR (s.offer first (iota first k)).1.rows ∧ (s.offer first (iota first k)).2.1 = iota s.next (s.offer first (iota first k)).2.1.length ∧ (s.offer first (iota first k)).1.next = s.next + (s.offer first (iota first k)).2.1.length ∧
    0 ≤ (s.offer first (iota first k)).2.2 ∧ (s.offer first (iota first k)).2.2 ≤ k := by
  unfold HS.offer
  split
  · refine ⟨ht, by simp [iota], by simp, by simp, by simp⟩
  · have h1 := offerL_ok (vs := iota first k) (n := first) (s := (s.rows, 0)) (ok.rows.weaken (lo' := s.next) (by omega) (Int.le_refl _))
    have h2 := offerL_told (next := s.next) (most := s.most) (k := k) (n := first) (s := (s.rows, 0)) ht
    have h3 := pop_told (next := s.next) h2
    have h4 := pop_spec h1.rising fun p hp => (h1.inb p hp).1
    have h5 := offerL_ref (next := s.next) (most := s.most) (vs := iota first k) (n := first) (s := (s.rows, 0)) (Int.le_refl _)
    refine ⟨h3.2, h3.1, h4.2.1, h5.1, ?_⟩
    have := h5.2
    simp only [iota_length] at this ⊢
    omega

/-- An item at a number that is not there yet, and not too far. -/
theorem offer_new {s : HS} (ok : s.Ok) {x v : Int} (h1 : s.next ≤ x) (h2 : x < s.next + s.most) (h3 : x ≤ 2199023255552) (hm : mlook x s.rows = none) :
    s.offer x [v] = ({ s with next := (pop s.next (ins x v s.rows)).2.1, rows := (pop s.next (ins x v s.rows)).2.2 }, (pop s.next (ins x v s.rows)).1, 0) := by
  have hn := ok.next0
  have e : offerL s.next s.most x [v] (s.rows, 0) = (ins x v s.rows, 0) := by
    simp only [offerL, offer1]
    rw [if_neg (by simp [hm]; omega), if_neg (by omega)]
  unfold HS.offer
  rw [if_neg (by omega), e]
/-- An item that was ready, or that waits. -/
theorem offer_old {s : HS} (ok : s.Ok) {x v : Int} (h0 : 0 ≤ x) (h3 : x ≤ 2199023255552) (hm : x < s.next ∨ (mlook x s.rows).isSome = true) : s.offer x [v] = (s, [], 0) := by
  have e : offerL s.next s.most x [v] (s.rows, 0) = (s.rows, 0) := by
    simp only [offerL, offer1]
    rw [if_pos hm]
  have ep : pop s.next s.rows = ([], s.next, s.rows) := by
    cases hr : s.rows with
    | nil => rfl
    | cons p r =>
      have := (ok.rows.inb p (by rw [hr]; simp)).1
      obtain ⟨n, w⟩ := p
      simp only at this
      simp only [pop]
      rw [if_neg (by omega)]
  unfold HS.offer
  rw [if_neg (by omega), e, ep]
theorem ins_last {n v : Int} : ∀ {l : RowL}, (∀ p ∈ l, p.1 < n) → ins n v l = l ++ [(n, v)]
  | [], _ => rfl
  | (a, b) :: r, h => by
    have := h (a, b) (by simp)
    simp only at this
    simp only [ins, if_neg (show ¬ n < a by omega), List.cons_append]
    rw [ins_last fun p hp => h p (by simp [hp])]
theorem Ok.take {s : HS} (ok : s.Ok) (k : Nat) : HS.Ok { s with rows := s.rows.take k } :=
  ⟨ok.next0, ok.most1, ok.most2, ⟨ok.rows.rising.sublist (List.take_sublist _ _), fun p hp => ok.rows.inb p (List.mem_of_mem_take hp)⟩⟩
/-- What was drained comes again. -/
theorem offer_again {s : HS} (ok : s.Ok) (hb : s.next + s.most ≤ 2199023255552) {k : Nat} (hk : k < s.rows.length) :
    HS.offer { s with rows := s.rows.take k } s.rows[k].1 [s.rows[k].2] = ({ s with rows := s.rows.take (k + 1) }, [], 0) := by
  have hin := ok.rows.inb _ (List.getElem_mem hk)
  have hlt : ∀ p ∈ s.rows.take k, p.1 < s.rows[k].1 := by
    intro p hp
    obtain ⟨j, hj, rfl⟩ := List.getElem_of_mem hp
    simp only [List.length_take] at hj
    simp only [List.getElem_take]
    exact List.pairwise_iff_getElem.1 ok.rows.rising j k (by omega) hk (by omega)
  have hm : mlook s.rows[k].1 (s.rows.take k) = none := mlook_none.2 fun h => by
    obtain ⟨p, hp, e⟩ := List.mem_map.1 h
    have := hlt p hp
    omega
  rw [offer_new (Ok.take ok k) (by simp only; omega) (by simp only; omega) (by omega) hm]
  have ei : ins s.rows[k].1 s.rows[k].2 (s.rows.take k) = s.rows.take (k + 1) := by
    rw [ins_last hlt, List.take_succ_eq_append_getElem hk]
  simp only [ei]
  have ep : pop s.next (s.rows.take (k + 1)) = ([], s.next, s.rows.take (k + 1)) := by
    cases hr : s.rows.take (k + 1) with
    | nil => rfl
    | cons p r =>
      have := (ok.rows.inb p (List.mem_of_mem_take (i := k + 1) (by rw [hr]; simp))).1
      obtain ⟨n, w⟩ := p
      simp only at this
      simp only [pop]
      rw [if_neg (by omega)]
  rw [ep]
end Go.Nm
