/-
  The plain model of a reorder buffer: rows of numbers, rising.
-/
import Derived.Test.YtfgabhogcbmhoaaKL
set_option linter.unusedVariables false
set_option linter.unusedSimpArgs false
namespace Go.Nm
open Go

abbrev RowL := List (Int × Int)
def Rising (l : RowL) : Prop := l.Pairwise fun a b => a.1 < b.1
def ins (n v : Int) : RowL → RowL
  | [] => [(n, v)]
  | (a, b) :: r => if n < a then (n, v) :: (a, b) :: r else (a, b) :: ins n v r
def offer1 (next most n v : Int) (s : RowL × Int) : RowL × Int :=
  if n < next ∨ (mlook n s.1).isSome = true then s
  else if next + most ≤ n then (s.1, s.2 + 1)
  else (ins n v s.1, s.2)
def offerL (next most : Int) : Int → List Int → RowL × Int → RowL × Int
  | _, [], s => s
  | n, v :: vs, s => offerL next most (n + 1) vs (offer1 next most n v s)
def pop : Int → RowL → List Int × Int × RowL
  | next, [] => ([], next, [])
  | next, (n, v) :: r => if n = next then (v :: (pop (next + 1) r).1, (pop (next + 1) r).2) else ([], next, (n, v) :: r)
structure HS where
  next : Int
  most : Int
  rows : RowL
def HS.offer (s : HS) (first : Int) (items : List Int) : HS × List Int × Int :=
  if first < 0 ∨ 2199023255552 < first then (s, [], (items.length : Int))
  else ({ s with next := (pop s.next (offerL s.next s.most first items (s.rows, 0)).1).2.1, rows := (pop s.next (offerL s.next s.most first items (s.rows, 0)).1).2.2 },
    (pop s.next (offerL s.next s.most first items (s.rows, 0)).1).1, (offerL s.next s.most first items (s.rows, 0)).2)
def HS.drain (s : HS) : HS := { s with rows := [] }
/-- The rows of a buffer that may be: rising, from the next number on (or behind it), less than 'most' ahead. -/
structure RowsOk (lo next most : Int) (l : RowL) : Prop where
  rising : Rising l
  inb : ∀ p ∈ l, lo ≤ p.1 ∧ p.1 < next + most
structure HS.Ok (s : HS) : Prop where
  next0 : 0 ≤ s.next
  most1 : 1 ≤ s.most
  most2 : s.most ≤ 256
  rows : RowsOk (s.next + 1) s.next s.most s.rows

theorem rising_nodup {l : RowL} (h : Rising l) : (keysOf l).Nodup := List.pairwise_map.2 (h.imp fun hab e => by omega)
theorem mem_ins {n v : Int} {p : Int × Int} : ∀ {l : RowL}, p ∈ ins n v l ↔ p = (n, v) ∨ p ∈ l
  | [] => by simp [ins]
  | (a, b) :: r => by
    simp only [ins]
    split
    · simp
    · simp only [List.mem_cons, mem_ins (l := r)]
      constructor
      · rintro (h | h | h) <;> simp [h]
      · rintro (h | h | h) <;> simp [h]
theorem ins_perm (n v : Int) : ∀ (l : RowL), (ins n v l).Perm ((n, v) :: l)
  | [] => .refl _
  | (a, b) :: r => by
    simp only [ins]
    split
    · exact .refl _
    · exact ((ins_perm n v r).cons _).trans (.swap _ _ _)
theorem rising_ins {n v : Int} : ∀ {l : RowL}, Rising l → mlook n l = none → Rising (ins n v l)
  | [], _, _ => by simp [ins, Rising]
  | (a, b) :: r, h, hn => by
    obtain ⟨h1, h2⟩ := List.pairwise_cons.1 h
    simp only [mlook] at hn
    by_cases e : n = a
    · rw [if_pos e] at hn; cases hn
    · rw [if_neg e] at hn
      simp only [ins]
      split
      · rename_i hlt
        refine List.pairwise_cons.2 ⟨fun q hq => ?_, h⟩
        rcases List.mem_cons.1 hq with rfl | hq
        · exact hlt
        · have := h1 q hq; simp only at this ⊢; omega
      · rename_i hlt
        refine List.pairwise_cons.2 ⟨fun q hq => ?_, rising_ins h2 hn⟩
        rcases mem_ins.1 hq with rfl | hq
        · simp only; omega
        · exact h1 q hq
theorem length_ins (n v : Int) (l : RowL) : (ins n v l).length = l.length + 1 := by simp [(ins_perm n v l).length_eq]

/-- So many rows find place between two numbers. -/
theorem rising_length : ∀ {l : RowL} {lo hi : Int}, Rising l → (∀ p ∈ l, lo ≤ p.1 ∧ p.1 < hi) → (l.length : Int) ≤ max 0 (hi - lo)
  | [], lo, hi, _, _ => by simp; omega
  | (a, b) :: r, lo, hi, h, hb => by
    obtain ⟨h1, h2⟩ := List.pairwise_cons.1 h
    have h3 := hb (a, b) (by simp)
    have h4 := rising_length (lo := a + 1) (hi := hi) h2 fun p hp => ⟨by have := h1 p hp; simp only at this; omega, (hb p (by simp [hp])).2⟩
    simp only [List.length_cons] at *
    omega
theorem RowsOk.length {lo next most : Int} {l : RowL} (h : RowsOk lo next most l) : (l.length : Int) ≤ max 0 (next + most - lo) := rising_length h.rising h.inb

theorem offer1_ok {next most n v : Int} {s : RowL × Int} (h : RowsOk next next most s.1) : RowsOk next next most (offer1 next most n v s).1 := by
  unfold offer1
  split
  · exact h
  · rename_i hc
    simp only [not_or, Int.not_lt] at hc
    split
    · exact h
    · refine ⟨rising_ins h.rising ?_, fun p hp => ?_⟩
      · cases hm : mlook n s.1 with
        | none => rfl
        | some u => simp [hm] at hc
      · rcases mem_ins.1 hp with rfl | hp
        · simp only; omega
        · exact h.inb p hp
theorem offer1_ref {next most n v : Int} {s : RowL × Int} (h : 0 ≤ s.2) : s.2 ≤ (offer1 next most n v s).2 ∧ (offer1 next most n v s).2 ≤ s.2 + 1 := by
  unfold offer1
  split
  · omega
  · split <;> simp only <;> omega
theorem offerL_ok {next most : Int} : ∀ {vs : List Int} {n : Int} {s : RowL × Int}, RowsOk next next most s.1 → RowsOk next next most (offerL next most n vs s).1
  | [], _, _, h => h
  | v :: vs, n, s, h => offerL_ok (vs := vs) (offer1_ok h)
theorem offerL_ref {next most : Int} : ∀ {vs : List Int} {n : Int} {s : RowL × Int}, 0 ≤ s.2 → s.2 ≤ (offerL next most n vs s).2 ∧ (offerL next most n vs s).2 ≤ s.2 + vs.length
  | [], _, _, h => by simp [offerL]
  | v :: vs, n, s, h => by
    have h1 := offer1_ref (next := next) (most := most) (n := n) (v := v) h
    have h2 := offerL_ref (next := next) (most := most) (vs := vs) (n := n + 1) (s := offer1 next most n v s) (by omega)
    simp only [offerL, List.length_cons]
    omega
theorem RowsOk.weaken {lo lo' next next' most : Int} {l : RowL} (h : RowsOk lo next most l) (h1 : lo' ≤ lo) (h2 : next ≤ next') : RowsOk lo' next' most l :=
  ⟨h.rising, fun p hp => by have := h.inb p hp; omega⟩

/-- What stands at the next number is the first row, or nothing. -/
theorem mlook_next {next : Int} : ∀ {l : RowL}, Rising l → (∀ p ∈ l, next ≤ p.1) → mlook next l = match l with | [] => none | (n, v) :: _ => if n = next then some v else none
  | [], _, _ => rfl
  | (n, v) :: r, h, hb => by
    simp only [mlook]
    by_cases e : n = next
    · simp [e]
    · rw [if_neg (fun e2 => e e2.symm), if_neg e]
      obtain ⟨h1, h2⟩ := List.pairwise_cons.1 h
      rw [mlook_none]
      intro hm
      obtain ⟨p, hp, e3⟩ := List.mem_map.1 hm
      have := h1 p hp
      have := hb (n, v) (by simp)
      simp only at *
      omega
theorem pop_spec : ∀ {l : RowL} {next : Int}, Rising l → (∀ p ∈ l, next ≤ p.1) →
    next ≤ (pop next l).2.1 ∧ (pop next l).2.1 = next + (pop next l).1.length ∧ (∃ k, (pop next l).2.2 = l.drop k ∧ (pop next l).1.length = k ∧ k ≤ l.length) ∧ (∀ p ∈ (pop next l).2.2, (pop next l).2.1 + 1 ≤ p.1)
  | [], next, _, _ => by simp [pop]
  | (n, v) :: r, next, h, hb => by
    obtain ⟨h1, h2⟩ := List.pairwise_cons.1 h
    simp only [pop]
    by_cases e : n = next
    · rw [if_pos e]
      subst e
      obtain ⟨a1, a2, ⟨k, a3, a4, a5⟩, a6⟩ := pop_spec (l := r) (next := n + 1) h2 fun p hp => by have := h1 p hp; simp only at this; omega
      refine ⟨by simp only; omega, by simp only [List.length_cons]; omega, ⟨k + 1, by simpa using a3, by simpa using a4, by simpa using a5⟩, a6⟩
    · rw [if_neg e]
      refine ⟨by simp, by simp, ⟨0, by simp⟩, fun p hp => ?_⟩
      have h3 := hb (n, v) (by simp)
      simp only at h3
      rcases List.mem_cons.1 hp with rfl | hp
      · simp only; omega
      · have := h1 p hp; simp only at this ⊢; omega
theorem mdel_head {n v : Int} {r : RowL} (h : Rising ((n, v) :: r)) : mdel n ((n, v) :: r) = r := by
  have h2 : mlook n r = none := mlook_none.2 fun hm => by
    obtain ⟨p, hp, e3⟩ := List.mem_map.1 hm
    have := (List.pairwise_cons.1 h).1 p hp
    simp only at this
    omega
  have h3 : mdel n ((n, v) :: r) = mdel n r := by simp [mdel, List.filter_cons]
  rw [h3, mdel_of_none h2]

theorem HS.offer_ok {s : HS} (h : s.Ok) (first : Int) (items : List Int) : (s.offer first items).1.Ok ∧ s.next ≤ (s.offer first items).1.next ∧ (s.offer first items).1.next ≤ s.next + s.most ∧ (s.offer first items).1.most = s.most := by
  unfold HS.offer
  split
  · exact ⟨h, by simp, by have := h.most1; simp only; omega, rfl⟩
  · have h1 := offerL_ok (vs := items) (n := first) (s := (s.rows, 0)) (h.rows.weaken (lo' := s.next) (by omega) (Int.le_refl _))
    obtain ⟨a1, a2, ⟨k, a3, a4, a5⟩, a6⟩ := pop_spec h1.rising fun p hp => (h1.inb p hp).1
    have hlen := h1.length
    have := h.most1
    have hk : ((pop s.next (offerL s.next s.most first items (s.rows, 0)).1).1.length : Int) ≤ s.most := by omega
    refine ⟨⟨?_, h.most1, h.most2, ⟨?_, fun p hp => ?_⟩⟩, a1, by simp only; omega, rfl⟩
    · have := h.next0; simp only; omega
    · simp only [a3]; exact h1.rising.sublist (List.drop_sublist _ _)
    · refine ⟨a6 p hp, ?_⟩
      simp only [a3] at hp
      have := (h1.inb p (List.mem_of_mem_drop hp)).2
      simp only; omega
theorem sortI_keys {l : RowL} (h : Rising l) : sortI (keysOf l) = keysOf l := sortI_of_sorted (List.pairwise_map.2 (h.imp fun hab => by omega))
end Go.Nm
