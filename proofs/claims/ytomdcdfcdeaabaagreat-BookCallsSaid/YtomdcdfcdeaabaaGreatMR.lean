/-
  A range over a map: in any order, each entry once.
-/
import Derived.Test.YtomdcdfcdeaabaaGreatST
import Derived.Maps.RangeRun
set_option linter.unusedVariables false
set_option linter.unusedSimpArgs false
namespace Go.Nm
open Go

/-- A map that is gone through: 'dn' has been yielded. -/
def rngA {κ α : Type} (kenc : κ → Value) (venc : α → Value) (r mb : Nat) (m dn : List (κ × α)) : Assn := fun h =>
  ∃ (es : Array MapEntry) (clock : Nat) (ml : List (κ × α)) (seen : Array Nat) (is : List Nat),
    ((keysOf m).Nodup ∧ ml.Perm m ∧ es.toList.map (fun e : MapEntry => (e.key, e.val)) = ml.map (fun p => (kenc p.1, venc p.2)) ∧ (es.toList.map (·.born)).Nodup ∧ (∀ e ∈ es.toList, e.born < clock) ∧
      is.Nodup ∧ dn.map some = is.map (fun i => ml[i]?) ∧ seen.toList.map some = is.map (fun i => (es.toList[i]?).map (·.born))) ∧
    (pt r (.mapIter (some mb) clock seen clock) * pt mb (.map es clock)) h

section
variable {κ α : Type} {kenc : κ → Value} {venc : α → Value} {r mb : Nat} {m dn : List (κ × α)} {H : Heap} {L : List Assn} {P : Program}

theorem rngA_open {F : Assn} (h : Sat H (rngA kenc venc r mb m dn * F)) : ∃ (es : Array MapEntry) (clock : Nat) (ml : List (κ × α)) (seen : Array Nat) (is : List Nat),
    ((keysOf m).Nodup ∧ ml.Perm m ∧ es.toList.map (fun e : MapEntry => (e.key, e.val)) = ml.map (fun p => (kenc p.1, venc p.2)) ∧ (es.toList.map (·.born)).Nodup ∧ (∀ e ∈ es.toList, e.born < clock) ∧
      is.Nodup ∧ dn.map some = is.map (fun i => ml[i]?) ∧ seen.toList.map some = is.map (fun i => (es.toList[i]?).map (·.born))) ∧
    Sat H ((pt r (.mapIter (some mb) clock seen clock) * pt mb (.map es clock)) * F) := by
  obtain ⟨g, h1, x, y, hd, rfl, ⟨es, clock, ml, seen, is, h2, h3⟩, hy⟩ := h
  exact ⟨es, clock, ml, seen, is, h2, _, h1, x, y, hd, rfl, h3, hy⟩

/-- The loop is done with: the map is as it was. -/
theorem SatL.rg_map (h : SatL H L) (i : Nat) (hA : nth i L = rngA kenc venc r mb m dn) : SatL H (put i (mapA kenc venc mb m) L) := by
  have h2 := h.foc i
  rw [hA] at h2
  obtain ⟨es, clock, ml, seen, is, ⟨f1, f2, f3, f4, f5, _⟩, h3⟩ := rngA_open h2
  refine SatL.back ?_
  rw [sep_assoc] at h3
  exact h3.drop'.frame fun p hp => ⟨f1, es, clock, ⟨ml, f2, f3⟩, f4, f5, hp⟩
theorem run_newObj' {w : World} (o : Obj) : (newObj o).run P w = .ok w.heap.size (w.alloc o) := rfl
theorem SatL.rg_new {t k e : Nat} {z : α} (T : MapT P t k e venc z) {K : Value → Heap → Prop} (h : SatL H L) (i : Nat) (hA : nth i L = mapA kenc venc mb m)
    (kk : ∀ r H', SatL H' (put i (rngA kenc venc r mb m []) L) → K (.pointer (some ⟨r, 0, none⟩)) H') : RunW P (Instr.range t (.map (some mb))) H K := by
  intro w hw
  subst hw
  have h2 := h.foc i
  rw [hA] at h2
  obtain ⟨hn, es, clock, ⟨ml, f2, f3⟩, f4, f5, h3⟩ := mapA_open h2
  refine ⟨.pointer (some ⟨w.heap.size, 0, none⟩), w.alloc (.mapIter (some mb) clock #[] clock), ?_, ⟨rfl, rfl, rfl⟩, kk _ _ ?_⟩
  · simp [Instr.range, run_underlying T.und, Go.MapKept.run_getObj_map h3.get, run_newObj']
  · refine SatL.back ?_
    have h4 := h3.push (.mapIter (some mb) clock #[] clock)
    rw [← sep_assoc] at h4
    exact h4.frame fun p hp => ⟨es, clock, ml, #[], [], ⟨hn, f2, f3, f4, f5, List.nodup_nil, rfl, rfl⟩, hp⟩

theorem SatL.rg_next {ty : Nat} {K : Value → Heap → Prop} (h : SatL H L) (i : Nat) (hA : nth i L = rngA kenc venc r mb m dn)
    (k0 : dn.Perm m → K (.tuple #[.bool false]) H)
    (k1 : ∀ p, p ∈ m → p.1 ∉ keysOf dn → ∀ H', SatL H' (put i (rngA kenc venc r mb m (dn ++ [p])) L) → K (.tuple #[.bool true, kenc p.1, venc p.2]) H') :
    RunW P (Instr.next (.pointer (some ⟨r, 0, none⟩)) false ty) H K := by
  intro w hw
  subst hw
  have h2 := h.foc i
  rw [hA] at h2
  obtain ⟨es, clock, ml, seen, is, ⟨f1, f2, f3, f4, f5, f6, f7, f8⟩, h3⟩ := rngA_open h2
  rw [sep_assoc] at h3
  have hlen : es.toList.length = ml.length := by have := congrArg List.length f3; simpa using this
  have hbi : ∀ (i j : Nat) (a b : MapEntry), es.toList[i]? = some a → es.toList[j]? = some b → a.born = b.born → i = j := by
    intro i j a b ha hb hab
    have h1 : (es.toList.map (·.born))[i]? = some a.born := by simp [List.getElem?_map, ha]
    have h2 : (es.toList.map (·.born))[j]? = some a.born := by simp [List.getElem?_map, hb, hab]
    have hi : i < (es.toList.map (·.born)).length := by
      rcases Nat.lt_or_ge i (es.toList.map (·.born)).length with h | h
      · exact h
      · rw [List.getElem?_eq_none h] at h1; cases h1
    exact (List.getElem?_inj hi f4).1 (h1.trans h2.symm)
  have hseen : ∀ b, b ∈ seen.toList ↔ ∃ i ∈ is, ∃ a, es.toList[i]? = some a ∧ a.born = b := by
    intro b
    have : b ∈ seen.toList ↔ some b ∈ seen.toList.map some := by simp
    rw [this, f8, List.mem_map]
    constructor
    · rintro ⟨i, hi, h⟩
      cases he : es.toList[i]? with
      | none => rw [he] at h; cases h
      | some a => rw [he] at h; simp at h; exact ⟨i, hi, a, he, h⟩
    · rintro ⟨i, hi, a, he, h⟩
      exact ⟨i, hi, by rw [he]; simp [h]⟩
  rcases run_next_at (P := P) w ty r mb clock clock seen es clock h3.get h3.drop'.get f5 (Nat.le_refl _) with ⟨h0, hrun⟩ | ⟨e, he, w1, hw1, hrun⟩
  · refine ⟨_, _, hrun, Rest.refl _, k0 ?_⟩
    have hall : ∀ e ∈ es.toList, e.born ∈ seen.toList := by
      intro e he
      have hz : leftOf es seen = #[] := Array.eq_empty_of_size_eq_zero h0
      unfold leftOf at hz
      rw [Array.filter_eq_empty_iff] at hz
      have := hz e (by simpa using he)
      simpa using this
    have hp : is.Perm (List.range ml.length) := by
      refine (List.perm_ext_iff_of_nodup f6 List.nodup_range).2 fun i => ?_
      rw [List.mem_range]
      constructor
      · intro hi
        rcases Nat.lt_or_ge i ml.length with h | h
        · exact h
        · exfalso
          have h1 : (none : Option (κ × α)) ∈ dn.map some := by rw [f7]; exact List.mem_map.2 ⟨i, hi, by rw [List.getElem?_eq_none h]⟩
          simp at h1
      · intro hi
        have hi2 : i < es.toList.length := by omega
        obtain ⟨j, hj, a, ha, hab⟩ := (hseen _).1 (hall es.toList[i] (List.getElem_mem hi2))
        have := hbi j i a es.toList[i] ha (List.getElem?_eq_getElem hi2) hab
        rw [← this]; exact hj
    have h5 : (dn.map some).Perm (ml.map some) := by
      rw [f7]
      refine (hp.map _).trans ?_
      have : (List.range ml.length).map (fun i => ml[i]?) = ml.map some := by
        apply List.ext_getElem?
        intro j
        simp only [List.getElem?_map]
        by_cases hj : j < ml.length
        · rw [List.getElem?_range hj, List.getElem?_eq_getElem hj]; simp
        · rw [List.getElem?_eq_none (by simpa using hj), List.getElem?_eq_none (by omega)]; rfl
      rw [this]
    have h6 := h5.filterMap id
    simp only [List.filterMap_map, Function.comp_def, id] at h6
    rw [List.filterMap_some, List.filterMap_some] at h6
    exact h6.trans f2
  · unfold leftOf at he
    have he' : e ∈ es.toList ∧ e.born ∉ seen.toList := by simpa using he
    obtain ⟨ix, hix, hxe⟩ := List.mem_iff_getElem.1 he'.1
    have hml : ix < ml.length := by omega
    have hkv : (e.key, e.val) = (kenc ml[ix].1, venc ml[ix].2) := by
      have := congrArg (fun l => l[ix]?) f3
      simp only [List.getElem?_map, List.getElem?_eq_getElem hix, List.getElem?_eq_getElem hml, Option.map_some, hxe] at this
      exact Option.some.inj this
    have hni : ix ∉ is := fun hi => he'.2 ((hseen _).2 ⟨ix, hi, e, by rw [List.getElem?_eq_getElem hix, hxe], rfl⟩)
    have hkn : (keysOf ml).Nodup := (f2.map Prod.fst).nodup_iff.2 f1
    refine ⟨_, _, hrun, ?_, ?_⟩
    · rcases hw1 with rfl | rfl <;> exact ⟨rfl, rfl, rfl⟩
    · have e1 : e.key = kenc ml[ix].1 := congrArg Prod.fst hkv
      have e2 : e.val = venc ml[ix].2 := congrArg Prod.snd hkv
      rw [e1, e2]
      refine k1 ml[ix] (f2.mem_iff.1 (List.getElem_mem hml)) (fun hmem => ?_) _ (SatL.back ?_)
      · obtain ⟨q, hq, hq1⟩ := List.mem_map.1 hmem
        have : some q ∈ dn.map some := List.mem_map.2 ⟨q, hq, rfl⟩
        rw [f7] at this
        obtain ⟨j, hj, hjq⟩ := List.mem_map.1 this
        have hjl : j < ml.length := by
          rcases Nat.lt_or_ge j ml.length with h | h
          · exact h
          · rw [List.getElem?_eq_none h] at hjq; cases hjq
        rw [List.getElem?_eq_getElem hjl] at hjq
        have hjq := Option.some.inj hjq
        have : j = ix := by
          have h1 : (keysOf ml)[j]? = some q.1 := by simp [keysOf, List.getElem?_eq_getElem hjl, hjq]
          have h2 : (keysOf ml)[ix]? = some q.1 := by simp [keysOf, List.getElem?_eq_getElem hml, hq1]
          exact (List.getElem?_inj (by simpa [keysOf] using hjl) hkn).1 (h1.trans h2.symm)
        exact hni (this ▸ hj)
      · have h4 : Sat (w.heap.setIfInBounds r (.mapIter (some mb) clock (seen.push e.born) clock)) (pt r (.mapIter (some mb) clock (seen.push e.born) clock) * (pt mb (.map es clock) * star (del i L))) := upd_set h3
        have h5 : Sat (Go.ChangeMaps.setBlock w1 r (.mapIter (some mb) clock (seen.push e.born) clock)).heap (pt r (.mapIter (some mb) clock (seen.push e.born) clock) * (pt mb (.map es clock) * star (del i L))) := by
          rcases hw1 with rfl | rfl <;> exact h4
        rw [← sep_assoc] at h5
        refine h5.frame fun p hp => ⟨es, clock, ml, seen.push e.born, is ++ [ix], ⟨f1, f2, f3, f4, f5, ?_, ?_, ?_⟩, hp⟩
        · exact List.nodup_append.2 ⟨f6, by simp, fun a ha b hb => by simp at hb; subst hb; exact fun e => hni (e ▸ ha)⟩
        · rw [List.map_append, f7, List.map_append]; simp [List.getElem?_eq_getElem hml]
        · rw [Array.toList_push, List.map_append, f8, List.map_append]; simp only [List.map_cons, List.map_nil, List.getElem?_eq_getElem hix, hxe, Option.map_some]

theorem SatL.rg_entry {p : κ × α} (h : SatL H L) (i : Nat) (hA : nth i L = rngA kenc venc r mb m (dn ++ [p])) : ReadRun P (Instr.entry (.pointer (some ⟨r, 0, none⟩))) H (.tuple #[kenc p.1, venc p.2]) := by
  intro w hw
  subst hw
  have h2 := h.foc i
  rw [hA] at h2
  obtain ⟨es, clock, ml, seen, is, ⟨f1, f2, f3, f4, f5, f6, f7, f8⟩, h3⟩ := rngA_open h2
  rw [sep_assoc] at h3
  have hl1 := congrArg List.length f7
  have hl2 := congrArg List.length f8
  simp only [List.length_map, List.length_append, List.length_singleton] at hl1 hl2
  rcases List.eq_nil_or_concat is with hz | ⟨is0, ix, rfl⟩
  · subst hz; simp at hl1
  rw [List.concat_eq_append] at *
  rw [List.map_append, List.map_append] at f7
  have e7 := (List.append_inj' f7 (by simp)).2
  simp only [List.map_cons, List.map_nil, List.cons.injEq, and_true] at e7
  have hml : ix < ml.length := by
    rcases Nat.lt_or_ge ix ml.length with h | h
    · exact h
    · rw [List.getElem?_eq_none h] at e7; cases e7
  have hlen : es.toList.length = ml.length := by have := congrArg List.length f3; simpa using this
  have hix : ix < es.toList.length := by omega
  rcases List.eq_nil_or_concat seen.toList with hz | ⟨s0, b, hs⟩
  · rw [hz] at hl2; simp at hl2
  rw [List.concat_eq_append] at hs
  rw [hs, List.map_append, List.map_append] at f8
  have e8 := (List.append_inj' f8 (by simp)).2
  simp only [List.map_cons, List.map_nil, List.cons.injEq, and_true, List.getElem?_eq_getElem hix, Option.map_some, Option.some.injEq] at e8
  have hse : seen = (⟨s0⟩ : Array Nat).push es.toList[ix].born := by apply Array.ext'; rw [hs, e8]; simp
  have hkv : (es.toList[ix].key, es.toList[ix].val) = (kenc p.1, venc p.2) := by
    have := congrArg (fun l => l[ix]?) f3
    simp only [List.getElem?_map, List.getElem?_eq_getElem hix, ← e7, Option.map_some] at this
    exact Option.some.inj this
  have e1 : es.toList[ix].key = kenc p.1 := congrArg Prod.fst hkv
  have e2 : es.toList[ix].val = venc p.2 := congrArg Prod.snd hkv
  rw [hse] at h3
  have := run_entry_at (P := P) w r mb clock ⟨s0⟩ es clock es.toList[ix] h3.get h3.drop'.get (List.getElem_mem hix) f4
  rw [e1, e2] at this
  exact this
end
end Go.Nm
namespace Go.Nm
open Go
/-- How many entries a range has yielded: for measures. -/
def iterN (H : Heap) (r : Nat) : Nat := match H[r]? with | some (.mapIter _ _ seen _) => seen.size | _ => 0
theorem SatL.rg_count {κ α : Type} {kenc : κ → Value} {venc : α → Value} {r mb : Nat} {m dn : List (κ × α)} {H : Heap} {L : List Assn} (h : SatL H L) (i : Nat) (hA : nth i L = rngA kenc venc r mb m dn) : iterN H r = dn.length ∧ dn.length ≤ m.length := by
  have h2 := h.foc i
  rw [hA] at h2
  obtain ⟨es, clock, ml, seen, is, ⟨f1, f2, f3, f4, f5, f6, f7, f8⟩, h3⟩ := rngA_open h2
  rw [sep_assoc] at h3
  have hl1 := congrArg List.length f7
  have hl2 := congrArg List.length f8
  simp only [List.length_map] at hl1 hl2
  refine ⟨?_, ?_⟩
  · unfold iterN
    rw [h3.get]
    simp only
    rw [← Array.length_toList, hl2, hl1]
  · rw [hl1, ← f2.length_eq]
    have hsub : is ⊆ List.range ml.length := by
      intro i hi
      rw [List.mem_range]
      rcases Nat.lt_or_ge i ml.length with h | h
      · exact h
      · exfalso
        have h1 : (none : Option (κ × α)) ∈ dn.map some := by rw [f7]; exact List.mem_map.2 ⟨i, hi, by rw [List.getElem?_eq_none h]⟩
        simp at h1
    have := f6.length_le_of_subset hsub
    simpa using this
end Go.Nm
