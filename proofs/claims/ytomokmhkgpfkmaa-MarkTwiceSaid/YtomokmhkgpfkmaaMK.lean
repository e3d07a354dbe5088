/-
  The mark, plainly: an agent's floor and flags; what a tick does.
-/
import Derived.Test.YtomokmhkgpfkmaaST
set_option linter.unusedVariables false
set_option linter.unusedSimpArgs false
namespace Go.Nm
open Go

structure Fl where
  t : Int
  out : Bool
  was : Bool
  held : Bool
deriving DecidableEq
def Fl.z : Fl := ⟨0, false, false, false⟩
abbrev encF (x : Fl) : List Value := [.int .i64 x.t, .bool x.out, .bool x.was, .bool x.held]
abbrev aggF (x : Fl) : Value := .agg #[.int .i64 x.t, .bool x.out, .bool x.was, .bool x.held]
abbrev FM := List (Int × Fl)
abbrev isT (t : Int) : Prop := 0 ≤ t ∧ t ≤ 4611686018427387903
abbrev isAg (a : Int) : Prop := 0 ≤ a ∧ a < 64

structure MS where
  lag : Int
  now : Int
  value : Int
  m : FM
deriving DecidableEq
structure MOk (s : MS) : Prop where
  l1 : 1 ≤ s.lag
  l2 : s.lag ≤ 1099511627776
  n : isT s.now
  v1 : -s.lag ≤ s.value
  v2 : s.value ≤ 4611686018427387903
  nd : (keysOf s.m).Nodup
  rows : ∀ p ∈ s.m, isAg p.1 ∧ isT p.2.t

def MS.new (lag : Int) : MS := ⟨lag, 0, -lag, []⟩
def MS.join (s : MS) (a t : Int) : MS × Int :=
  if ¬ isAg a ∨ ¬ isT t then (s, 11) else
  match mlook a s.m with
  | some _ => (s, 18)
  | none => ({ s with m := mset a ⟨t, false, false, false⟩ s.m }, 0)
def MS.raise (s : MS) (a t : Int) : MS × Int :=
  match mlook a s.m with
  | none => (s, 19)
  | some x => if ¬ isT t then (s, 11) else ({ s with m := mset a ⟨if t > x.t then t else x.t, x.out, x.was, x.held⟩ s.m }, 0)
def MS.hold (s : MS) (a : Int) (b : Bool) : MS × Int :=
  match mlook a s.m with
  | none => (s, 19)
  | some x => ({ s with m := mset a ⟨x.t, x.out, x.was, b⟩ s.m }, 0)
def MS.leave (s : MS) (a : Int) : MS × Int :=
  match mlook a s.m with
  | none => (s, 19)
  | some _ => ({ s with m := mdel a s.m }, 0)
def updF (lim : Int) (x : Fl) : Fl := ⟨x.t, decide (x.t < lim), x.was || decide (x.t < lim), x.held⟩
def stepL (lim : Int) (s : Int × Bool) (x : Fl) : Int × Bool :=
  if ¬ x.t < lim ∧ x.held = false ∧ (s.2 = false ∨ x.t < s.1) then (x.t, true) else s
def foldL (lim : Int) (m : FM) : List Int → Int × Bool → Int × Bool
  | [], s => s
  | k :: r, s => foldL lim m r (stepL lim s ((mlook k m).getD Fl.z))
abbrev maxI (a b : Int) : Int := if b > a then b else a
def MS.tick (s : MS) (now : Int) : MS × Int :=
  if ¬ isT now ∨ now < s.now then (s, 11) else
  ({ s with now := now, value := maxI s.value (foldL (now - s.lag) s.m (sortI (keysOf s.m)) (now - s.lag, false)).1, m := s.m.map fun p => (p.1, updF (now - s.lag) p.2) }, 0)

/-! ### maps -/
section
variable {κ α : Type} [DecidableEq κ]
theorem mupd_perm {k : κ} {v : α} : ∀ {m : List (κ × α)}, (keysOf m).Nodup → k ∈ keysOf m → (m.map fun p => if p.1 = k then (k, v) else p).Perm (mset k v m)
  | [], _, h => by simp at h
  | p :: r, hn, h => by
    simp only [keysOf, List.map_cons, List.nodup_cons] at hn
    by_cases e : p.1 = k
    · have hk : k ∉ keysOf r := by rw [← e]; exact hn.1
      have e1 : (r.map fun p => if p.1 = k then (k, v) else p) = r := by
        conv => rhs; rw [← List.map_id r]
        apply List.map_congr_left
        intro q hq
        rw [if_neg (fun e2 => hk (by rw [← e2]; exact List.mem_map.2 ⟨q, hq, rfl⟩))]; rfl
      have e2 : mdel k (p :: r) = r := by
        have : mdel k (p :: r) = mdel k r := by simp [mdel, List.filter_cons, e]
        rw [this, mdel_of_none (mlook_none.2 hk)]
      rw [List.map_cons, if_pos e, e1]
      unfold mset
      rw [e2]
    · have hk : k ∈ keysOf r := by
        simp only [keysOf, List.map_cons, List.mem_cons] at h
        exact h.resolve_left (fun e2 => e e2.symm)
      rw [List.map_cons, if_neg e]
      refine ((mupd_perm (m := r) hn.2 hk).cons p).trans ?_
      unfold mset
      have : mdel k (p :: r) = p :: mdel k r := by simp [mdel, List.filter_cons, e]
      rw [this]
      exact .swap _ _ _
theorem mlook_map {β : Type} {f : κ → α → β} {k : κ} : ∀ {m : List (κ × α)}, mlook k (m.map fun p => (p.1, f p.1 p.2)) = (mlook k m).map (f k)
  | [] => rfl
  | p :: r => by
    have ih := mlook_map (f := f) (k := k) (m := r)
    simp only [List.map_cons, mlook]
    split
    · rename_i e; rw [← e]; rfl
    · exact ih
omit [DecidableEq κ] in
theorem keys_map {β : Type} {f : κ → α → β} {m : List (κ × α)} : keysOf (m.map fun p => (p.1, f p.1 p.2)) = keysOf m := by simp [keysOf, Function.comp_def]
end

theorem nodup_le : ∀ (n : Nat) (l : List Int), l.Nodup → (∀ x ∈ l, 0 ≤ x ∧ x < (n : Int)) → l.length ≤ n
  | 0, l, _, h => by
    cases l with
    | nil => simp
    | cons a r => have := h a (by simp); omega
  | n + 1, l, hn, h => by
    have h2 := nodup_le n (l.erase (n : Int)) (hn.erase _) (fun x hx => by
      have hx' := (hn.mem_erase_iff).1 hx
      have := h x hx'.2
      have := hx'.1
      omega)
    have h3 : l.length ≤ (l.erase (n : Int)).length + 1 := by
      by_cases hm : (n : Int) ∈ l
      · rw [List.length_erase_of_mem hm]; omega
      · rw [List.erase_of_not_mem hm]; omega
    omega
theorem MOk.le {s : MS} (h : MOk s) : s.m.length ≤ 64 := by
  have := nodup_le 64 (keysOf s.m) h.nd (fun x hx => by
    obtain ⟨p, hp, rfl⟩ := List.mem_map.1 hx
    exact (h.rows p hp).1)
  simpa [keysOf] using this
theorem MOk.wf {s : MS} (h : MOk s) : ∀ x ∈ keysOf s.m, wf64 x := by
  intro x hx
  obtain ⟨p, hp, rfl⟩ := List.mem_map.1 hx
  have := (h.rows p hp).1
  unfold wf64; omega
theorem MOk.look {s : MS} (h : MOk s) {a : Int} {x : Fl} (hx : mlook a s.m = some x) : isAg a ∧ isT x.t := h.rows _ (mlook_some_mem hx)

theorem MOk.new {lag : Int} (h1 : 1 ≤ lag) (h2 : lag ≤ 1099511627776) : MOk (MS.new lag) :=
  ⟨h1, h2, ⟨by simp [MS.new], by simp [MS.new]⟩, Int.le_refl _, by simp only [MS.new]; omega, by simp [MS.new], fun p hp => by simp [MS.new] at hp⟩
theorem MOk.mset {s : MS} (h : MOk s) {a : Int} {x : Fl} (ha : isAg a) (hx : isT x.t) : MOk { s with m := mset a x s.m } :=
  ⟨h.l1, h.l2, h.n, h.v1, h.v2, nodup_mset h.nd, fun p hp => by
    rcases List.mem_cons.1 hp with rfl | hp
    · exact ⟨ha, hx⟩
    · exact h.rows p (mem_mdel.1 hp).1⟩
theorem MOk.join {s : MS} (h : MOk s) (a t : Int) : MOk (s.join a t).1 := by
  unfold MS.join
  split
  · exact h
  · rename_i hc
    split
    · exact h
    · exact h.mset (by omega) (by simp only; omega)
theorem MOk.raise {s : MS} (h : MOk s) (a t : Int) : MOk (s.raise a t).1 := by
  unfold MS.raise
  split
  · exact h
  · rename_i x hx
    have hl := h.look hx
    split
    · exact h
    · refine h.mset hl.1 ?_
      simp only
      split <;> omega
theorem MOk.hold {s : MS} (h : MOk s) (a : Int) (b : Bool) : MOk (s.hold a b).1 := by
  unfold MS.hold
  split
  · exact h
  · rename_i x hx
    exact h.mset (h.look hx).1 (h.look hx).2
theorem MOk.leave {s : MS} (h : MOk s) (a : Int) : MOk (s.leave a).1 := by
  unfold MS.leave
  split
  · exact h
  · exact ⟨h.l1, h.l2, h.n, h.v1, h.v2, nodup_mdel h.nd, fun p hp => h.rows p (mem_mdel.1 hp).1⟩
theorem fold_range {lim : Int} {m : FM} (hm : ∀ p ∈ m, isT p.2.t) : ∀ (ks : List Int) (s : Int × Bool), (s.1 ≤ 4611686018427387903) → (foldL lim m ks s).1 ≤ 4611686018427387903
  | [], s, h => h
  | k :: r, s, h => by
    refine fold_range hm r _ ?_
    unfold stepL
    split
    · simp only
      cases hk : mlook k m with
      | none => simp [Fl.z]
      | some x => exact (hm _ (mlook_some_mem hk)).2
    · exact h
theorem fold_ge {lim : Int} {m : FM} : ∀ (ks : List Int) (s : Int × Bool), lim ≤ s.1 → lim ≤ (foldL lim m ks s).1
  | [], s, h => h
  | k :: r, s, h => by
    refine fold_ge r _ ?_
    unfold stepL
    split
    · simp only; omega
    · exact h
theorem MOk.tick {s : MS} (h : MOk s) (now : Int) : MOk (s.tick now).1 := by
  unfold MS.tick
  split
  · exact h
  · rename_i hc
    have := h.l1
    have := h.v1
    have := h.v2
    have hf := fold_range (lim := now - s.lag) (fun p hp => (h.rows p hp).2) (sortI (keysOf s.m)) (now - s.lag, false) (by simp only; omega)
    refine ⟨h.l1, h.l2, ⟨by simp only; omega, by simp only; omega⟩, ?_, ?_, ?_, fun p hp => ?_⟩
    · simp only [maxI]; split <;> omega
    · simp only [maxI]; split <;> omega
    · exact (congrArg List.Nodup (keys_map (f := fun _ x => updF (now - s.lag) x) (m := s.m))).mpr h.nd
    · obtain ⟨q, hq, rfl⟩ := List.mem_map.1 hp
      exact h.rows q hq
end Go.Nm
namespace Go.Nm
open Go
/-! ### a tick, key by key -/
def mjT (lim : Int) (m : FM) (l : List Int) : FM := m.map fun p => (p.1, if p.1 ∈ l then updF lim p.2 else p.2)
theorem mjT_nil (lim : Int) (m : FM) : mjT lim m [] = m := by
  unfold mjT
  conv => rhs; rw [← List.map_id m]
  apply List.map_congr_left
  intro p _
  simp
theorem mjT_all {lim : Int} {m : FM} {l : List Int} (h : ∀ x ∈ keysOf m, x ∈ l) : mjT lim m l = m.map fun p => (p.1, updF lim p.2) := by
  unfold mjT
  apply List.map_congr_left
  intro p hp
  rw [if_pos (h p.1 (List.mem_map.2 ⟨p, hp, rfl⟩))]
theorem mjT_keys (lim : Int) (m : FM) (l : List Int) : keysOf (mjT lim m l) = keysOf m := keys_map (f := fun k x => if k ∈ l then updF lim x else x) (m := m)
theorem mjT_look (lim : Int) (m : FM) (l : List Int) (k : Int) : mlook k (mjT lim m l) = (mlook k m).map fun x => if k ∈ l then updF lim x else x := mlook_map (f := fun k x => if k ∈ l then updF lim x else x) (m := m)
theorem mjT_step {lim : Int} {m : FM} {l : List Int} {k : Int} {x : Fl} (hn : (keysOf m).Nodup) (hk : mlook k m = some x) : (mset k (updF lim x) (mjT lim m l)).Perm (mjT lim m (l ++ [k])) := by
  have hmem : k ∈ keysOf (mjT lim m l) := by
    rw [mjT_keys]; exact List.mem_map.2 ⟨_, mlook_some_mem hk, rfl⟩
  refine (mupd_perm (by rw [mjT_keys]; exact hn) hmem).symm.trans ?_
  have : (mjT lim m l).map (fun p => if p.1 = k then (k, updF lim x) else p) = mjT lim m (l ++ [k]) := by
    unfold mjT
    rw [List.map_map]
    apply List.map_congr_left
    intro p hp
    simp only [Function.comp_def, List.mem_append, List.mem_singleton]
    by_cases e : p.1 = k
    · have hx : p.2 = x := by
        have := mlook_of_mem hn (show (p.1, p.2) ∈ m from hp)
        rw [e, hk] at this
        exact (Option.some.inj this).symm
      rw [if_pos e, if_pos (Or.inr e), hx, e]
    · rw [if_neg e]
      by_cases e2 : p.1 ∈ l
      · rw [if_pos e2, if_pos (Or.inl e2)]
      · rw [if_neg e2, if_neg (fun hh => hh.elim e2 e)]
  rw [this]
theorem foldL_append (lim : Int) (m : FM) : ∀ (l r : List Int) (s : Int × Bool), foldL lim m (l ++ r) s = foldL lim m r (foldL lim m l s)
  | [], _, _ => rfl
  | k :: l, r, s => foldL_append lim m l r _
theorem sortI_nodup {l : List Int} (h : l.Nodup) : (sortI l).Nodup := (sortI_perm_self l).nodup_iff.2 h
theorem sortI_mem {l : List Int} {x : Int} : x ∈ sortI l ↔ x ∈ l := (sortI_perm_self l).mem_iff
theorem take_notin {l : List Int} (h : l.Nodup) {j : Nat} (hj : j < l.length) : l[j] ∉ l.take j := by
  intro hm
  obtain ⟨i, hi, he⟩ := List.getElem_of_mem hm
  rw [List.getElem_take] at he
  have hi2 : i < j := by simp at hi; omega
  exact List.pairwise_iff_getElem.1 h i j _ hj hi2 he
end Go.Nm
