/-
  slices.Sorted(maps.Keys(m)) and maps.Clone(m) at this program.
-/
import Derived.Test.YtomdcdfcdeaabaaGreatKL
import Derived.Test.YtomdcdfcdeaabaaGreatLib
import Derived.Test.YtomdcdfcdeaabaaGreatT1
set_option linter.unusedVariables false
set_option linter.unusedSimpArgs false
namespace Go.Proofs.YtomdcdfcdeaabaaGreat
open Go Go.Nm Go.Proofs Go.RowKit Go.Maps Go.Sort Go.Shelf

theorem fin_of_calls {P : Program} {f : FuncId} {args : Array Value} {w : World} {K : Value → Heap → Prop} {Q : Ending → World → Prop} (h : Calls P f args w Q) (hk : ∀ e w', Q e w' → ∃ v, e = .returned v ∧ Go.Nm.Rest w w' ∧ K v w'.heap) : Calls P f args w (Fin w K) :=
  h.mono fun e w' hq => by
    obtain ⟨v, rfl, h1, h2⟩ := hk e w' hq
    exact ⟨h1, h2⟩

theorem putCells_mid (pre cs post : List Value) (ys : List Int) (hl : ys.length = cs.length) :
    putCells (Value.int .i64) pre.length ys.toArray (pre ++ cs ++ post).toArray = (pre ++ ys.map (Value.int .i64) ++ post).toArray := by
  apply Array.ext'
  apply List.ext_getElem?
  intro j
  simp only [putCells, List.size_toArray]
  rw [Array.getElem?_toList, Array.getElem?_mapIdx, List.getElem?_toArray]
  rw [List.append_assoc, List.append_assoc]
  by_cases h1 : j < pre.length
  · have e1 : (pre ++ (cs ++ post))[j]? = some pre[j] := by rw [List.getElem?_append_left h1, List.getElem?_eq_getElem h1]
    have e2 : (pre ++ (ys.map (Value.int .i64) ++ post))[j]? = some pre[j] := by rw [List.getElem?_append_left h1, List.getElem?_eq_getElem h1]
    rw [e1, e2]
    simp only [Option.map_some]
    rw [if_neg (by omega)]
  · have e1 : (pre ++ (cs ++ post))[j]? = (cs ++ post)[j - pre.length]? := List.getElem?_append_right (by omega)
    have e2 : (pre ++ (ys.map (Value.int .i64) ++ post))[j]? = (ys.map (Value.int .i64) ++ post)[j - pre.length]? := List.getElem?_append_right (by omega)
    rw [e1, e2]
    by_cases h2 : j < pre.length + ys.length
    · have h3 : j - pre.length < cs.length := by omega
      have h4 : j - pre.length < ys.length := by omega
      have e3 : (cs ++ post)[j - pre.length]? = some cs[j - pre.length] := by rw [List.getElem?_append_left h3, List.getElem?_eq_getElem h3]
      have e4 : (ys.map (Value.int .i64) ++ post)[j - pre.length]? = some (.int .i64 ys[j - pre.length]) := by rw [List.getElem?_append_left (by simpa using h4), List.getElem?_map, List.getElem?_eq_getElem h4]; rfl
      rw [e3, e4]
      simp only [Option.map_some]
      rw [if_pos ⟨by omega, h2⟩]
      simp [h4]
    · have e3 : (cs ++ post)[j - pre.length]? = post[j - pre.length - cs.length]? := List.getElem?_append_right (by omega)
      have e4 : (ys.map (Value.int .i64) ++ post)[j - pre.length]? = post[j - pre.length - cs.length]? := by rw [List.getElem?_append_right (by simp; omega), List.length_map, hl]
      rw [e3, e4]
      cases hp : post[j - pre.length - cs.length]? with
      | none => rfl
      | some v =>
        simp only [Option.map_some]
        rw [if_neg (by omega)]

theorem Sort_call {H : Heap} {L : List Assn} {a : Option Addr} {c : Nat} {xs : List Int} (h : SatL H L) (i : Nat) (hA : nth i L = slA 3 1 a xs.length c (xs.map (Value.int .i64))) (hsz : xs.length < 4611686018427387904) {K : Value → Heap → Prop}
    (k : ∀ H', SatL H' (put i (slA 3 1 a xs.length c ((sortI xs).map (Value.int .i64))) L) → K (.tuple #[]) H') :
    CallF Tryz.prog 52 #[.slice a xs.length c] H K := by
  intro w hw
  subst hw
  have h2 := h.foc i
  rw [hA] at h2
  obtain ⟨hl, ⟨rfl, hn, rfl, h3⟩ | ⟨b, pre, post, e', fr, rfl, hnc, hcap, hfr, h3⟩⟩ := slA_open h2
  · have hx : xs = [] := List.length_eq_zero_iff.1 hn
    subst hx
    refine fin_of_calls (AnyM.slices_Sort_int_none Tryz.sortA none 0 w) ?_
    rintro e w' ⟨rfl, rfl⟩
    refine ⟨_, rfl, ⟨rfl, rfl, rfl⟩, k _ (SatL.back ?_)⟩
    rw [show (sortI ([] : List Int)) = [] from sortI_of_sorted List.Pairwise.nil]
    exact slA_nil h3
  · have hb := Sat.get h3
    have hlt : b < w.heap.size := Sat.lt h3
    have hH : Holds (Value.int .i64) w b pre.length xs.toArray := by
      intro j hj
      have hj' : j < xs.length := by simpa using hj
      refine ⟨?_, ?_⟩
      case refine_2 =>
        have := hfr (pre.length + j) (by omega) (by omega)
        simp only [World.frozen?, hb, Bool.and_eq_false_iff, decide_eq_false_iff_not]
        omega
      simp only [World.cell?, hb, Option.isSome_none, Bool.false_eq_true, if_false, List.getElem?_toArray]
      rw [List.append_assoc, List.getElem?_append_right (by omega), Nat.add_sub_cancel_left, List.getElem?_append_left (by simpa using hj'), List.getElem?_map, List.getElem?_eq_getElem hj']
      simp [hj']
    refine fin_of_calls (AnyM.slices_Sort_int Tryz.sortA b pre.length c xs w hH hlt hsz) ?_
    rintro e w' ⟨rfl, n, os, rfl⟩
    refine ⟨_, rfl, ⟨rfl, rfl, rfl⟩, k _ (SatL.back ?_)⟩
    have hs : (sortI xs).length = xs.length := sortI_length xs
    have hup : Sat (w.heap.modify b (onCells (putCells (Value.int .i64) pre.length (sortI xs).toArray))) (pt b (.cells (pre ++ (sortI xs).map (Value.int .i64) ++ post).toArray e' fr) * star (del i L)) := by
      refine Sat.upd h3 ?_ fun j hj => ?_
      · rw [Array.getElem?_modify, if_pos rfl, hb]
        simp only [Option.map_some, onCells]
        rw [putCells_mid _ _ _ _ (by simp [hs])]
      · rw [Array.getElem?_modify, if_neg (Ne.symm hj)]
    have hg : Sat (w.heap.modify b (onCells (putCells (Value.int .i64) pre.length (sortI xs).toArray)) ++ os.toList.toArray) (pt b (.cells (pre ++ (sortI xs).map (Value.int .i64) ++ post).toArray e' fr) * star (del i L)) :=
      hup.grow fun j hj => by rw [Array.getElem?_append_left hj]
    have hfin := hg.frame (B := slA 3 1 (some ⟨b, pre.length, none⟩) xs.length c ((sortI xs).map (Value.int .i64))) fun p hp => ⟨by simp [hs], .inr ⟨b, pre, post, e', fr, rfl, hnc, hcap, fun _ => hfr, hp⟩⟩
    simpa [grow, putRow, mapBlock, Sort.ahead, sortI] using hfin

end Go.Proofs.YtomdcdfcdeaabaaGreat
