/-
  The library's keys, sorted and clone of maps, over rows of assertions.
-/
import Derived.Test.YtomdcdfcdeaabaaGreatMP
import Derived.Lib.SlKeysI
import Derived.Below
set_option linter.unusedVariables false
set_option linter.unusedSimpArgs false
namespace Go.Nm
open Go Go.Maps Go.RowKit

def sortI (l : List Int) : List Int := l.mergeSort fun x y => decide (x ≤ y)
theorem sortI_perm {l l' : List Int} (h : l.Perm l') : sortI l = sortI l' := mergeSort_of_perm_i h
theorem sortI_perm_self (l : List Int) : (sortI l).Perm l := List.mergeSort_perm l _
theorem sortI_sorted (l : List Int) : (sortI l).Pairwise (· ≤ ·) := by
  have := List.pairwise_mergeSort (le := fun x y : Int => decide (x ≤ y)) (fun a b c h1 h2 => by simp only [decide_eq_true_eq] at *; omega) (fun a b => by simp only [Bool.or_eq_true, decide_eq_true_eq]; omega) l
  exact this.imp (by simp)
theorem sortI_of_sorted {l : List Int} (h : l.Pairwise (· ≤ ·)) : sortI l = l := by
  refine List.Perm.eq_of_pairwise (le := (· ≤ ·)) (fun a b _ _ h1 h2 => by omega) (sortI_sorted l) h (sortI_perm_self l)
theorem sortI_length (l : List Int) : (sortI l).length = l.length := (sortI_perm_self l).length_eq

def wf64 (x : Int) : Prop := -9223372036854775808 ≤ x ∧ x ≤ 9223372036854775807
theorem wf64_lit {x : Int} (h : wf64 x) : (Lit.int .i64 x).wf = true := by
  unfold wf64 at h
  simp [Lit.wf, IntKind.min, IntKind.max, IntKind.signed, IntKind.bits]
  omega

theorem grow_of_below {w w' : World} (h : Below w.heap.size w w') : Grow w.heap w'.heap := fun b hb => h.block b hb
theorem rest_of_below {n : Nat} {w w' : World} (h : Below n w w') : Rest w w' := ⟨h.os, h.tape, h.output⟩

abbrev readT (H : Type) : Value → Option (DataW H × List MemPlace) := fun _ => some (.lit (.bool true), [])
theorem own_of_map {α : Type} {venc : α → Value} {P : Program} {k : TypeId} {w : World} {r : Nat} {m : List (Int × α)} {F : Assn} (hk : P.underlying k = some (.int .i64))
    (h : Sat w.heap (mapA (Value.int .i64) venc r m * F)) (hr : ∀ x ∈ keysOf m, wf64 x) (hsz : m.length ≤ maxLen) :
    ∃ D0 : DataW Unit, w.ownsMap P k (readT Unit) r m.length D0 ∧ (intKeys D0).Perm (keysOf m) ∧ Maps.size D0 = m.length := by
  obtain ⟨hn, es, clock, ⟨ml, hp, hes⟩, hborn, hclock, h5⟩ := mapA_open h
  have hlen : es.size = m.length := by
    have := congrArg List.length hes
    simp at this
    rw [this, hp.length_eq]
  have hrd : ∀ x ∈ es.toList, ∃ a : Int, x.key = Value.int .i64 a ∧ Go.WideElems.rd P k (readT Unit) x = some (.int .i64 a, .lit (.bool true)) := by
    intro x hx
    have : (x.key, x.val) ∈ es.toList.map (fun e : MapEntry => (e.key, e.val)) := List.mem_map.2 ⟨x, hx, rfl⟩
    rw [hes] at this
    obtain ⟨p, hp1, hp2⟩ := List.mem_map.1 this
    have hk2 : p.1 ∈ keysOf m := List.mem_map.2 ⟨p, hp.mem_iff.1 hp1, rfl⟩
    have hw := wf64_lit (hr _ hk2)
    simp only [Prod.mk.injEq] at hp2
    refine ⟨p.1, hp2.1.symm, ?_⟩
    unfold Go.WideElems.rd
    rw [← hp2.1]
    simp [keyOf, hk, mapKey, hw, readT]
  have hsort := Go.WideShapes.sorted_perm (es.toList.map (Go.WideElems.rg P k (readT Unit)))
  have hrg : es.toList.map (fun x => Go.intOf (Go.WideElems.rg P k (readT Unit) x).1) = keysOf ml := by
    have h2 := (map_es hes).1
    have h3 : es.toList.map (fun x => Go.intOf (Go.WideElems.rg P k (readT Unit) x).1) = (es.toList.map (·.key)).map fun v => match v with | .int _ a => a | _ => 0 := by
      rw [List.map_map]
      apply List.map_congr_left
      intro x hx
      obtain ⟨a, h4, h5⟩ := hrd x hx
      simp [Go.WideElems.rg, h5, h4, Go.intOf]
    rw [h3, h2, List.map_map]
    simp [Function.comp_def]
  refine ⟨_, ⟨es, clock, h5.get, ⟨by omega, ⟨hclock, hborn, ?_⟩, fun x hx => ?_⟩, by omega, rfl⟩, ?_, ?_⟩
  · have h2 := (map_es hes).1
    rw [h2]
    have hnl : (keysOf ml).Nodup := (hp.map Prod.fst).nodup_iff.2 hn
    exact List.pairwise_map.2 (hnl.imp fun hne e => hne (by cases e; rfl))
  · obtain ⟨a, _, h2⟩ := hrd x hx; exact ⟨_, h2⟩
  · show ((es.toList.map (Go.WideElems.rg P k (readT Unit))).foldr DataW.insert [] |>.map fun p => Go.intOf p.1).Perm _
    refine (hsort.map _).trans ?_
    rw [List.map_map]
    simp only [Function.comp_def]
    rw [hrg]
    exact hp.map Prod.fst
  · show ((es.toList.map (Go.WideElems.rg P k (readT Unit))).foldr DataW.insert []).length = _
    rw [hsort.length_eq]; simpa using hlen
/-- A row that the library has made. -/
theorem SatL.of_row {w w' : World} {L : List Assn} (h : SatL w.heap L) (hb : Below w.heap.size w w') {e : TypeId} {v : Value} {n : Nat} {xs : List Value} (ho : w'.ownsRow w.heap.size e 1 v n xs) :
    ∃ a c, v = .slice a n c ∧ SatL w'.heap (slA e 1 a n c xs :: L) := by
  obtain ⟨hl, h2⟩ := ho
  have g := grow_of_below hb
  rcases h2 with ⟨rfl, rfl⟩ | ⟨g1, cap, cur, rfl, hg, hc, hn, hm, hs, ht⟩
  · have : xs = [] := List.eq_nil_of_length_eq_zero (by simpa using hl)
    subst this
    exact ⟨none, 0, rfl, (h.grow g).sl_nil e 1⟩
  · refine ⟨_, _, rfl, ?_⟩
    have h3 : SatL w'.heap (cellsA g1 cur.toList e :: L) := h.new g hg (by simpa using hc)
    refine h3.mono fun p hp => ⟨hl, .inr ⟨g1, [], cur.toList.drop n, e, (0, 0), rfl, hn, ?_, fun _ i _ _ hh => by simp at hh, ?_⟩⟩
    · simp only [List.length_drop, Array.length_toList, Nat.mul_one]; omega
    · have : ([] ++ xs ++ cur.toList.drop n) = cur.toList := by
        rw [← ht]; simp
      rw [this]; exact hp
end Go.Nm
