/-
  The mark's laws, plainly.
-/
import Derived.Test.YtomokmhkgpfkmaaM4
set_option linter.unusedVariables false
set_option linter.unusedSimpArgs false
namespace Go.Proofs.Ytomokmhkgpfkmaa
open Go Go.Nm Go.Proofs

theorem tick_ok {s : MS} {now : Int} (h : ¬ (¬ isT now ∨ now < s.now)) :
    (s.tick now) = ({ s with now := now, value := maxI s.value (foldL (now - s.lag) s.m (sortI (keysOf s.m)) (now - s.lag, false)).1, m := s.m.map fun p => (p.1, updF (now - s.lag) p.2) }, 0) := if_neg h
theorem fold_le {lim top : Int} {m : FM} (hm : ∀ p ∈ m, p.2.t ≤ top) (h0 : 0 ≤ top) : ∀ (ks : List Int) (s : Int × Bool), s.1 ≤ top → (foldL lim m ks s).1 ≤ top
  | [], s, h => h
  | k :: r, s, h => by
    refine fold_le hm h0 r _ ?_
    unfold stepL
    split
    · simp only
      cases hk : mlook k m with
      | none => simp [Fl.z]; exact h0
      | some x => exact hm _ (mlook_some_mem hk)
    · exact h
theorem fold_mono {lim : Int} {m : FM} : ∀ (ks : List Int) (s : Int × Bool), s.2 = true → (foldL lim m ks s).1 ≤ s.1
  | [], s, h => Int.le_refl _
  | k :: r, s, h => by
    have h2 : (stepL lim s ((mlook k m).getD Fl.z)).2 = true ∧ (stepL lim s ((mlook k m).getD Fl.z)).1 ≤ s.1 := by
      unfold stepL
      split
      · rename_i hc
        rcases hc.2.2 with hc | hc
        · rw [h] at hc; cases hc
        · exact ⟨rfl, by simp only; omega⟩
      · exact ⟨h, Int.le_refl _⟩
    exact Int.le_trans (fold_mono r _ h2.1) h2.2
theorem fold_has {lim : Int} {m : FM} {k : Int} {x : Fl} (hk : mlook k m = some x) (h1 : ¬ x.t < lim) (h2 : x.held = false) : ∀ (ks : List Int) (s : Int × Bool), k ∈ ks → (foldL lim m ks s).1 ≤ x.t
  | a :: r, s, h => by
    rcases List.mem_cons.1 h with rfl | h
    · have h3 : (stepL lim s x).2 = true ∧ (stepL lim s x).1 ≤ x.t ∨ (stepL lim s x) = s ∧ s.2 = true ∧ s.1 ≤ x.t := by
        unfold stepL
        by_cases hc : s.2 = false ∨ x.t < s.1
        · left; rw [if_pos ⟨h1, h2, hc⟩]; exact ⟨rfl, Int.le_refl _⟩
        · right
          rw [if_neg (fun hh => hc hh.2.2)]
          simp only [not_or, Bool.not_eq_false, Int.not_lt] at hc
          exact ⟨rfl, hc.1, hc.2⟩
      have h4 : (stepL lim s x).2 = true ∧ (stepL lim s x).1 ≤ x.t := by
        rcases h3 with h3 | ⟨h3, h5, h6⟩
        · exact h3
        · rw [h3]; exact ⟨h5, h6⟩
      show (foldL lim m r (stepL lim s ((mlook k m).getD Fl.z))).1 ≤ x.t
      rw [hk]
      exact Int.le_trans (fold_mono r _ h4.1) h4.2
    · exact fold_has hk h1 h2 r _ h
theorem fold_upd {lim : Int} {m : FM} : ∀ (ks : List Int) (s : Int × Bool), foldL lim (m.map fun p => (p.1, updF lim p.2)) ks s = foldL lim m ks s
  | [], _ => rfl
  | k :: r, s => by
    have e : stepL lim s ((mlook k (m.map fun p => (p.1, updF lim p.2))).getD Fl.z) = stepL lim s ((mlook k m).getD Fl.z) := by
      rw [mlook_map (f := fun _ x => updF lim x)]
      cases mlook k m <;> rfl
    show foldL lim _ r (stepL lim s _) = _
    rw [e]
    exact fold_upd r _

/-! ### MarkRises -/
structure RInv (lag : Int) (ahead : Bool) (s : MS) : Prop where
  ok : MOk s
  lg : s.lag = lag
  low : s.now - s.lag ≤ s.value
  top : ahead = false → (∀ p ∈ s.m, p.2.t ≤ s.now) ∧ s.value ≤ s.now
theorem RInv.mset {lag : Int} {ahead ahead' : Bool} {s : MS} {a : Int} {x : Fl} (h : RInv lag ahead s) (ok' : MOk { s with m := mset a x s.m }) (h1 : ahead' = false → ahead = false ∧ x.t ≤ s.now) : RInv lag ahead' { s with m := mset a x s.m } :=
  ⟨ok', h.lg, h.low, fun ha => ⟨fun p hp => by
    rcases List.mem_cons.1 hp with rfl | hp
    · exact (h1 ha).2
    · exact (h.top (h1 ha).1).1 p (mem_mdel.1 hp).1, (h.top (h1 ha).1).2⟩⟩
theorem RInv.weak {lag : Int} {ahead ahead' : Bool} {s : MS} (h : RInv lag ahead s) (h1 : ahead' = false → ahead = false) : RInv lag ahead' s := ⟨h.ok, h.lg, h.low, fun ha => h.top (h1 ha)⟩
theorem rises {lag : Int} {ahead : Bool} {s : MS} {what a t : Int} {b : Bool} (h : RInv lag ahead s) :
    RInv lag (ahead || (decide (what < 2) && decide (s.now < t))) (doM s what a t b) ∧ s.value ≤ (doM s what a t b).value ∧ s.now ≤ (doM s what a t b).now ∧
    (what ≠ 4 → (doM s what a t b).value = s.value ∧ (doM s what a t b).now = s.now) := by
  have hw : (ahead || (decide (what < 2) && decide (s.now < t))) = false → ahead = false := by
    intro h; simp only [Bool.or_eq_false_iff] at h; exact h.1
  have okd := MOk.doM h.ok what a t b
  unfold doM at *
  split
  · rename_i h0
    rw [if_pos h0] at okd
    unfold MS.join at *
    split
    · exact ⟨h.weak hw, Int.le_refl _, Int.le_refl _, fun _ => ⟨rfl, rfl⟩⟩
    rename_i hb
    rw [if_neg hb] at okd
    split
    · exact ⟨h.weak hw, Int.le_refl _, Int.le_refl _, fun _ => ⟨rfl, rfl⟩⟩
    · rename_i hm
      rw [hm] at okd
      refine ⟨h.mset okd fun ha => ⟨hw ha, ?_⟩, Int.le_refl _, Int.le_refl _, fun _ => ⟨rfl, rfl⟩⟩
      subst h0
      simp only [Bool.or_eq_false_iff, Bool.and_eq_false_iff, decide_eq_false_iff_not] at ha
      simp only; omega
  rename_i h0
  rw [if_neg h0] at okd
  split
  · rename_i h1
    rw [if_pos h1] at okd
    unfold MS.raise at *
    split
    · exact ⟨h.weak hw, Int.le_refl _, Int.le_refl _, fun _ => ⟨rfl, rfl⟩⟩
    rename_i x hx
    rw [hx] at okd
    simp only at okd
    split
    · exact ⟨h.weak hw, Int.le_refl _, Int.le_refl _, fun _ => ⟨rfl, rfl⟩⟩
    rename_i hb
    rw [if_neg hb] at okd
    refine ⟨h.mset okd fun ha => ⟨hw ha, ?_⟩, Int.le_refl _, Int.le_refl _, fun _ => ⟨rfl, rfl⟩⟩
    subst h1
    have := (h.top (hw ha)).1 _ (mlook_some_mem hx)
    simp only [Bool.or_eq_false_iff, Bool.and_eq_false_iff, decide_eq_false_iff_not] at ha
    simp only at this ⊢
    split <;> omega
  rename_i h1
  rw [if_neg h1] at okd
  split
  · rename_i h2
    rw [if_pos h2] at okd
    unfold MS.hold at *
    split
    · exact ⟨h.weak hw, Int.le_refl _, Int.le_refl _, fun _ => ⟨rfl, rfl⟩⟩
    rename_i x hx
    rw [hx] at okd
    refine ⟨h.mset okd fun ha => ⟨hw ha, ?_⟩, Int.le_refl _, Int.le_refl _, fun _ => ⟨rfl, rfl⟩⟩
    exact (h.top (hw ha)).1 _ (mlook_some_mem hx)
  rename_i h2
  rw [if_neg h2] at okd
  split
  · rename_i h3
    rw [if_pos h3] at okd
    unfold MS.leave at *
    split
    · exact ⟨h.weak hw, Int.le_refl _, Int.le_refl _, fun _ => ⟨rfl, rfl⟩⟩
    rename_i x hx
    rw [hx] at okd
    refine ⟨⟨okd, h.lg, h.low, fun ha => ⟨fun p hp => (h.top (hw ha)).1 p (mem_mdel.1 hp).1, (h.top (hw ha)).2⟩⟩, Int.le_refl _, Int.le_refl _, fun _ => ⟨rfl, rfl⟩⟩
  rename_i h3
  rw [if_neg h3] at okd
  split
  · rename_i h4
    rw [if_pos h4] at okd
    by_cases hb : ¬ isT t ∨ t < s.now
    · have e : s.tick t = (s, 11) := if_pos hb
      rw [e]
      exact ⟨h.weak hw, Int.le_refl _, Int.le_refl _, fun _ => ⟨rfl, rfl⟩⟩
    · rw [tick_ok hb] at *
      have hn : 0 ≤ t ∧ s.now ≤ t := by
        have h5 : isT t := by
          rcases Classical.em (isT t) with h | h
          · exact h
          · exact absurd (Or.inl h) hb
        have h6 : ¬ t < s.now := fun h => hb (Or.inr h)
        exact ⟨h5.1, by omega⟩
      have hg := fold_ge (lim := t - s.lag) (m := s.m) (sortI (keysOf s.m)) (t - s.lag, false) (Int.le_refl _)
      have hl1 := h.ok.l1
      refine ⟨⟨okd, h.lg, ?_, fun ha => ⟨fun p hp => ?_, ?_⟩⟩, ?_, hn.2, fun hne => absurd h4 hne⟩
      · simp only [maxI]; split <;> omega
      · obtain ⟨q, hq, rfl⟩ := List.mem_map.1 hp
        have := (h.top (hw ha)).1 q hq
        simp only [updF]; omega
      · have htp := h.top (hw ha)
        have := fold_le (lim := t - s.lag) (top := t) (m := s.m) (fun p hp => by have := htp.1 p hp; omega) hn.1 (sortI (keysOf s.m)) (t - s.lag, false) (by simp only; omega)
        have := htp.2
        simp only [maxI]; split <;> omega
      · simp only [maxI]; split <;> omega
  · exact ⟨h.weak hw, Int.le_refl _, Int.le_refl _, fun _ => ⟨rfl, rfl⟩⟩

/-! ### MarkKeeps -/
structure KInv (agent : Int) (good : Bool) (s : MS) : Prop where
  ok : MOk s
  g : good = true → ∃ x, mlook agent s.m = some x ∧ s.value ≤ x.t ∧ x.held = false
theorem look_mset {a b : Int} {x : Fl} {m : FM} : mlook b (mset a x m) = if b = a then some x else mlook b m := mlook_mset
/-- What a call leaves of an agent that was there. -/
theorem keeps {s : MS} {agent what a t : Int} {b : Bool} {x y : Fl} (ok : MOk s) (hx : mlook agent s.m = some x) (hv : s.value ≤ x.t) (hh : x.held = false)
    (hy : mlook agent (doM s what a t b).m = some y) (h1 : y.was = false) (h2 : y.held = false) : (doM s what a t b).value ≤ y.t := by
  unfold doM at *
  split at hy
  · rename_i h0
    rw [if_pos h0]
    unfold MS.join at *
    split at hy
    · rename_i hb; rw [if_pos hb]; rw [hx] at hy; cases hy; exact hv
    rename_i hb; rw [if_neg hb]
    split at hy
    · rename_i u hu; rw [hx] at hy; cases hy; exact hv
    · rename_i hu
      simp only [hu]
      simp only [look_mset] at hy
      split at hy
      · rename_i e; rw [e, hu] at hx; cases hx
      · rw [hx] at hy; cases hy; exact hv
  rename_i h0; rw [if_neg h0]
  split at hy
  · rename_i h0; rw [if_pos h0]
    unfold MS.raise at *
    split at hy
    · rename_i hu; rw [hx] at hy; cases hy; exact hv
    rename_i u hu
    split at hy
    · rename_i hb; rw [if_pos hb]; rw [hx] at hy; cases hy; exact hv
    rename_i hb; rw [if_neg hb]
    simp only [look_mset] at hy ⊢
    split at hy
    · rename_i e
      rw [e, hu] at hx; cases hx; cases hy
      simp only
      split <;> omega
    · rw [hx] at hy; cases hy; exact hv
  rename_i h0; rw [if_neg h0]
  split at hy
  · rename_i h0; rw [if_pos h0]
    unfold MS.hold at *
    split at hy
    · rename_i hu; rw [hx] at hy; cases hy; exact hv
    rename_i u hu
    simp only [look_mset] at hy ⊢
    split at hy
    · rename_i e
      rw [e, hu] at hx; cases hx; cases hy
      exact hv
    · rw [hx] at hy; cases hy; exact hv
  rename_i h0; rw [if_neg h0]
  split at hy
  · rename_i h0; rw [if_pos h0]
    unfold MS.leave at *
    split at hy
    · rename_i hu; rw [hx] at hy; cases hy; exact hv
    rename_i u hu
    simp only [mlook_mdel] at hy ⊢
    split at hy
    · cases hy
    · rw [hx] at hy; cases hy; exact hv
  rename_i h0; rw [if_neg h0]
  split at hy
  · rename_i h0; rw [if_pos h0]
    by_cases hb : ¬ isT t ∨ t < s.now
    · have e : s.tick t = (s, 11) := if_pos hb
      rw [e] at hy ⊢
      rw [hx] at hy; cases hy; exact hv
    · rw [tick_ok hb] at *
      simp only at hy ⊢
      rw [mlook_map (f := fun _ x => updF (t - s.lag) x), hx] at hy
      cases hy
      simp only [updF, Bool.or_eq_false_iff, decide_eq_false_iff_not] at h1 ⊢
      have := fold_has (lim := t - s.lag) hx h1.2 hh (sortI (keysOf s.m)) (t - s.lag, false) (sortI_mem.2 (List.mem_map.2 ⟨_, mlook_some_mem hx, rfl⟩))
      simp only [maxI]
      split <;> omega
  · rename_i h0; rw [if_neg h0]; rw [hx] at hy; cases hy; exact hv
/-- An agent that is new has come by a Join. -/
theorem news {s : MS} {agent what a t : Int} {b : Bool} {y : Fl} (hx : mlook agent s.m = none) (hy : mlook agent (doM s what a t b).m = some y) : (doM s what a t b).value = s.value := by
  by_cases h4 : what = 4
  · exfalso
    have e : doM s what a t b = (s.tick t).1 := by subst h4; rfl
    rw [e] at hy
    unfold MS.tick at hy
    split at hy
    · rw [hx] at hy; cases hy
    · simp only at hy
      rw [mlook_map (f := fun _ x => updF (t - s.lag) x), hx] at hy
      cases hy
  · unfold doM
    split
    · unfold MS.join; split
      · rfl
      · split <;> rfl
    split
    · unfold MS.raise; split
      · rfl
      · split <;> rfl
    split
    · unfold MS.hold; split <;> rfl
    split
    · unfold MS.leave; split <;> rfl
    · rfl

/-! ### MarkTwice -/
theorem tick_twice {s : MS} {now : Int} : (s.tick now).1.tick now = ((s.tick now).1, (s.tick now).2) := by
  by_cases hb : ¬ isT now ∨ now < s.now
  · have e : s.tick now = (s, 11) := if_pos hb
    rw [e]; exact e
  · have e := tick_ok hb
    have hn : isT now := by
      rcases Classical.em (isT now) with h | h
      · exact h
      · exact absurd (Or.inl h) hb
    have hb2 : ¬ (¬ isT now ∨ now < (s.tick now).1.now) := by
      rw [e]
      exact fun hh => hh.elim (fun h => h hn) (fun h => by simp only at h; omega)
    rw [tick_ok hb2, e]
    simp only
    have ek : keysOf (s.m.map fun p => (p.1, updF (now - s.lag) p.2)) = keysOf s.m := keys_map (f := fun _ x => updF (now - s.lag) x)
    rw [ek, fold_upd]
    have em : (s.m.map fun p => (p.1, updF (now - s.lag) p.2)).map (fun p => (p.1, updF (now - s.lag) p.2)) = s.m.map fun p => (p.1, updF (now - s.lag) p.2) := by
      rw [List.map_map]
      apply List.map_congr_left
      intro p _
      simp only [Function.comp_def, updF, Bool.or_assoc, Bool.or_self]
    rw [em]
    have ev : ∀ v l : Int, maxI (maxI v l) l = maxI v l := by
      intro v l; simp only [maxI]; split <;> (try split) <;> omega
    rw [ev]
def allJ (s : MS) (j : Nat) : FM := ((ksOf s).take j).map fun k => (k, atF s k)
theorem allJ_keys (s : MS) (j : Nat) : keysOf (allJ s j) = (ksOf s).take j := by unfold allJ keysOf; rw [List.map_map]; simp [Function.comp_def]
theorem allJ_step {s : MS} (hn : (keysOf s.m).Nodup) {j : Nat} (hj : j < (ksOf s).length) : (mset (ksOf s)[j] (atF s (ksOf s)[j]) (allJ s j)).Perm (allJ s (j + 1)) := by
  have hni : (ksOf s)[j] ∉ keysOf (allJ s j) := by rw [allJ_keys]; exact take_notin (sortI_nodup hn) hj
  unfold mset
  rw [mdel_of_none (mlook_none.2 hni)]
  have : allJ s (j + 1) = allJ s j ++ [((ksOf s)[j], atF s (ksOf s)[j])] := by
    unfold allJ; rw [List.take_succ_eq_append_getElem hj, List.map_append]; rfl
  rw [this]
  exact (List.perm_append_singleton _ _).symm
theorem allJ_look {s : MS} (hn : (keysOf s.m).Nodup) {j : Nat} (hj : j < (ksOf s).length) : mlook (ksOf s)[j] (allJ s (ksOf s).length) = some (atF s (ksOf s)[j]) := by
  refine mlook_of_mem ?_ ?_
  · rw [allJ_keys, List.take_length]; exact sortI_nodup hn
  · unfold allJ
    rw [List.take_length]
    exact List.mem_map.2 ⟨_, List.getElem_mem hj, rfl⟩
theorem allJ_len (s : MS) : (allJ s (ksOf s).length).length = (ksOf s).length := by unfold allJ; rw [List.take_length, List.length_map]
end Go.Proofs.Ytomokmhkgpfkmaa
