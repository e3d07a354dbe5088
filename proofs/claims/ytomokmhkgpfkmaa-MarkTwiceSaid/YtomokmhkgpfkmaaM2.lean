/-
  The mark's functions, walked (2): the walk through all agents; a tick.
-/
import Derived.Test.YtomokmhkgpfkmaaM1
set_option linter.unusedVariables false
set_option linter.unusedSimpArgs false
namespace Go.Proofs.Ytomokmhkgpfkmaa
open Go Go.Nm Go.Proofs

section
variable {mb rb : Nat} {s : MS} {F : List Assn} {H : Heap} {K : Value → Heap → Prop}

theorem All_spec (h : SatL H F) (k : ∀ c0 H', SatL H' (cellsA c0 [.pointer (some ⟨mb, 0, none⟩)] 24 :: F) → K (.func (.func 28) #[] #[.pointer (some ⟨c0, 0, none⟩)]) H') :
    CallF Try.prog 13 #[.pointer (some ⟨mb, 0, none⟩)] H K := by
  refine mark_All.call ?_
  unfold mark_All.code
  refine h.al fun _ _ h => ?_
  exact k _ _ h

abbrev ksOf (s : MS) : List Int := sortI (keysOf s.m)
abbrev atF (s : MS) (a : Int) : Fl := (mlook a s.m).getD Fl.z
theorem ks_len : (ksOf s).length = s.m.length := by simp [ksOf, sortI_length, keysOf]

theorem All1_spec {l c0 : Nat} (ok : MOk s) (A : Nat → Assn) (Ax : Assn) (B : Assn)
    (h : SatL H (markC mb rb s :: mapF rb s.m :: B :: cellsA c0 [.pointer (some ⟨mb, 0, none⟩)] 24 :: F))
    (hst : ∀ G H', SatL H' (markC mb rb s :: mapF rb s.m :: B :: G) → SatL H' (A 0 :: G))
    (hy : ∀ j (hj : j < (ksOf s).length) (G : List Assn) (H1 : Heap) (K1 : Value → Heap → Prop), SatL H1 (A j :: G) → (∀ H2, SatL H2 (A (j + 1) :: G) → K1 (.bool true) H2) → (∀ H2, SatL H2 (Ax :: G) → K1 (.bool false) H2) →
      YieldF Try.prog l [I64 (ksOf s)[j], aggF (atF s (ksOf s)[j])] H1 K1)
    (k : ∀ H', SatL H' (A (ksOf s).length :: cellsA c0 [.pointer (some ⟨mb, 0, none⟩)] 24 :: F) → K (.tuple #[]) H')
    (kx : ∀ H', SatL H' (Ax :: cellsA c0 [.pointer (some ⟨mb, 0, none⟩)] 24 :: F) → K (.tuple #[]) H') :
    CallF Try.prog 28 #[.func (.yield l) #[] #[], .pointer (some ⟨c0, 0, none⟩)] H K := by
  refine mark_All_1.call ?_
  unfold mark_All_1.code
  have hle := ok.le
  have hkl : (ksOf s).length = s.m.length := ks_len
  repeat (first
    | refine h.al fun _ _ h => ?_
    | refine nn_some ?_
    | refine ⟨fun _ => trivial, ?_⟩
    | refine ⟨_, h.rd 0 rfl _, ?_⟩
    | refine ⟨_, h.rd 1 rfl _, ?_⟩
    | refine ⟨_, h.rd 2 rfl _, ?_⟩
    | refine ⟨_, h.rd 3 rfl _, ?_⟩
    | refine h.st 0 rfl rfl fun _ h => ?_
    | refine h.st 1 rfl rfl fun _ h => ?_
    | refine h.st 2 rfl rfl fun _ h => ?_
    | refine h.st 3 rfl rfl fun _ h => ?_
    | refine ⟨_, fun _ => h.rd 0 rfl _, ?_⟩
    | refine ⟨_, fun _ => h.rd 1 rfl _, ?_⟩
    | refine ⟨_, fun _ => h.rd 2 rfl _, ?_⟩
    | refine ⟨_, fun _ => h.rd 3 rfl _, ?_⟩)
  refine Clone_call h 1 rfl fun H1 h1 _ => ⟨_, rfl, ?_⟩
  refine Keys_call ⟨_, _, rfl, ?_⟩
  refine Sorted_call h1 0 rfl ok.wf (by omega) fun a c H2 h2 _ => ⟨_, _, _, rfl, ?_⟩
  have h2 := hst _ _ (h2.ordt [2, 3, 4, 0, 1] 5 (by decide) (by decide))
  refine ⟨fun t H' => ∃ j : Nat, t = j ∧ j ≤ (ksOf s).length ∧ SatL H' (A j :: slA 2 1 a s.m.length c ((ksOf s).map I64) :: mapF H.size s.m :: cellsA c0 [.pointer (some ⟨mb, 0, none⟩)] 24 :: F),
    fun t _ => (ksOf s).length - t.toNat, ⟨0, rfl, Nat.zero_le _, h2⟩, ?_⟩
  rintro t H3 ⟨j, rfl, hj, h3⟩
  unfold mark_All_1.l1
  refine ⟨fun hc => ?_, fun hc => ?_⟩
  · have hlt : j < (ksOf s).length := by have := of_decide_eq_true hc; omega
    have hrd := (h3.sl_rd 1 rfl).at hlt
    have hlk := h3.mp_get1 mt45 ko2 2 rfl (x := (ksOf s)[j])
    refine ⟨⟨by omega, by omega⟩, _, _, hrd.1, _, hrd.2, _, _, _, _, hlk, ?_⟩
    refine hy j hlt _ H3 _ h3 (fun H4 h4 => ⟨true, rfl, fun hf => (by cases hf), fun _ => ?_⟩) fun H4 h4 => ⟨false, rfl, fun _ => ?_, fun hf => (by cases hf)⟩
    · rw [w64 (by omega) (by omega)]
      exact ⟨⟨j + 1, rfl, hlt, h4⟩, by simp only [Int.toNat_natCast]; omega⟩
    · exact kx _ (h4.ordt [0, 3] 4 (by decide) (by decide))
  · obtain rfl : j = (ksOf s).length := by have := of_decide_eq_false hc; omega
    exact k _ (h3.ordt [0, 3] 4 (by decide) (by decide))

theorem Tick1_spec {b c0 c1 c2 c3 : Nat} {x : Fl} {now least : Int} {found : Bool} (hl : 1 ≤ s.lag ∧ s.lag ≤ 1099511627776) (hn : isT now)
    (h : SatL H (cellsA b (encF x) 40 :: markC mb rb s :: cellsA c0 [I64 now] 2 :: cellsA c1 [.pointer (some ⟨mb, 0, none⟩)] 24 :: cellsA c2 [.bool found] 4 :: cellsA c3 [I64 least] 2 :: F))
    (k : ∀ H', SatL H' (cellsA b (encF (updF (now - s.lag) x)) 40 :: markC mb rb s :: cellsA c0 [I64 now] 2 :: cellsA c1 [.pointer (some ⟨mb, 0, none⟩)] 24 :: cellsA c2 [.bool (stepL (now - s.lag) (least, found) x).2] 4 :: cellsA c3 [I64 (stepL (now - s.lag) (least, found) x).1] 2 :: F) → K (I64 0) H') :
    CallF Try.prog 27 #[.pointer (some ⟨b, 0, none⟩), .pointer (some ⟨c0, 0, none⟩), .pointer (some ⟨c1, 0, none⟩), .pointer (some ⟨c2, 0, none⟩), .pointer (some ⟨c3, 0, none⟩)] H K := by
  refine mark_Tick_1.call ?_
  unfold mark_Tick_1.code
  refine ⟨_, h.rd 0 rfl _, _, h.rd 2 rfl _, _, h.rd 3 rfl _, nn_some ⟨_, h.rd 1 rfl _, ?_⟩⟩
  rw [w64 (x := now - s.lag) (by omega) (by omega)]
  refine h.st 0 rfl rfl fun _ h => ?_
  refine ⟨_, h.rd 0 rfl _, fun _ => trivial, _, fun _ => h.rd 0 rfl _, ?_⟩
  refine h.st 0 rfl rfl fun _ h => ?_
  refine ⟨_, h.rd 0 rfl _, fun _ => trivial, _, fun _ => h.rd 0 rfl _, _, fun _ => h.rd 4 rfl _, fun _ => trivial, _, fun _ => h.rd 0 rfl _, _, fun _ => h.rd 5 rfl _, ?_⟩
  intro Jn hJ
  refine ⟨fun hc => ?_, fun hc => ?_⟩
  · have e : stepL (now - s.lag) (least, found) x = (x.t, true) := if_pos (by
      simp only [Bool.and_eq_true, Bool.or_eq_true, Bool.not_eq_true', decide_eq_false_iff_not, decide_eq_true_eq] at hc
      exact ⟨hc.1.1, hc.1.2, hc.2⟩)
    rw [e] at k
    refine ⟨_, h.rd 0 rfl _, ?_⟩
    refine h.st 5 rfl rfl fun _ h => h.st 4 rfl rfl fun _ h => hJ _ ?_
    exact k _ h
  · have e : stepL (now - s.lag) (least, found) x = (least, found) := if_neg (fun hh => by
      rw [← Bool.not_eq_true] at hc
      apply hc
      simp only [Bool.and_eq_true, Bool.or_eq_true, Bool.not_eq_true', decide_eq_false_iff_not, decide_eq_true_eq]
      exact ⟨⟨hh.1, hh.2.1⟩, hh.2.2⟩)
    rw [e] at k
    exact hJ _ (k _ h)

/-- How far a tick has come, before key j. -/
def tkA (mb rb b b1 lb fb l : Nat) (R : Loop) (s : MS) (now : Int) (j : Nat) : Assn :=
  star [markC mb rb { s with now := now }, mapF rb (mjT (now - s.lag) s.m ((ksOf s).take j)), cellsA b [.pointer (some ⟨mb, 0, none⟩)] 24, cellsA b1 [I64 now] 2,
    cellsA lb [I64 (foldL (now - s.lag) s.m ((ksOf s).take j) (now - s.lag, false)).1] 2, cellsA fb [.bool (foldL (now - s.lag) s.m ((ksOf s).take j) (now - s.lag, false)).2] 4, pt l (.loop R)]

theorem Tick_round {b b1 lb fb j : Nat} {now : Int} {H4 H1 : Heap} {R : Loop} {G : List Assn} {K1 : Value → Heap → Prop} (ok : MOk s) (hn : isT now) (hj : j < (ksOf s).length)
    (h : SatL H1 (tkA mb rb b b1 lb fb (H4.size + 1) R s now j :: G)) (kt : ∀ H2, SatL H2 (tkA mb rb b b1 lb fb (H4.size + 1) R s now (j + 1) :: G) → K1 (.bool true) H2) :
    mark_Tick.y1 b b1 lb 0 fb 0 H4 R [I64 (ksOf s)[j], aggF (atF s (ksOf s)[j])] H1 K1 := by
  have h := h.open
  unfold mark_Tick.y1
  refine ⟨_, _, _, _, _, rfl, h.getO 6 rfl, h.getO 6 rfl, h.stl 6 rfl fun H6 h => ⟨_, h.rd 2 rfl _, ?_⟩⟩
  obtain ⟨x, hx⟩ : ∃ x, mlook (ksOf s)[j] s.m = some x := by
    cases hm : mlook (ksOf s)[j] s.m with
    | some x => exact ⟨x, rfl⟩
    | none => exact absurd (sortI_mem.1 (List.getElem_mem hj)) (mlook_none.1 hm)
  have hni := take_notin (sortI_nodup ok.nd) hj
  have hlk : mlook (ksOf s)[j] (mjT (now - s.lag) s.m ((ksOf s).take j)) = some x := by rw [mjT_look, hx]; simp [hni]
  have et : (ksOf s).take (j + 1) = (ksOf s).take j ++ [(ksOf s)[j]] := List.take_succ_eq_append_getElem hj
  refine change_spec (s := { s with now := now, m := mjT (now - s.lag) s.m ((ksOf s).take j) }) (f := 27) rfl h (fun hno => by rw [hlk] at hno; cases hno) fun x' hx' bb H7 h => ?_
  obtain rfl : x = x' := by rw [hlk] at hx'; exact Option.some.inj hx'
  refine Tick1_spec (s := { s with now := now }) ⟨ok.l1, ok.l2⟩ hn (h.ordt [0, 1, 4, 3, 6, 5, 2, 7] 8 (by decide) (by decide)) fun H8 h => .inr ⟨rfl, updF (now - s.lag) x, _, h.ordt [0, 1, 6, 2, 3, 4, 5, 7] 8 (by decide) (by decide), fun H9 h => ⟨_, rfl, ?_⟩⟩
  refine ⟨h.getO 6 rfl, kt _ ?_⟩
  have h := h.setO 6 rfl (.loop R)
  unfold tkA
  refine SatL.shut [_, _, _, _, _, _, _] ?_
  have em : mapF rb (mset (ksOf s)[j] (updF (now - s.lag) x) (mjT (now - s.lag) s.m ((ksOf s).take j))) = mapF rb (mjT (now - s.lag) s.m ((ksOf s).take j ++ [(ksOf s)[j]])) := mapA_perm (mjT_step ok.nd hx)
  rw [et, foldL_append, ← em]
  have ef : foldL (now - s.lag) s.m [(ksOf s)[j]] (foldL (now - s.lag) s.m ((ksOf s).take j) (now - s.lag, false)) = stepL (now - s.lag) (foldL (now - s.lag) s.m ((ksOf s).take j) (now - s.lag, false)) x := by
    show stepL _ _ ((mlook _ s.m).getD Fl.z) = _
    rw [hx]; rfl
  rw [ef]
  exact h.ordt [0, 1, 3, 2, 5, 4, 6] 7 (by decide) (by decide)

theorem Tick_spec {now : Int} (ok : MOk s) (h : SatL H (markC mb rb s :: mapF rb s.m :: F))
    (k : ∀ H', SatL H' (markC mb rb (s.tick now).1 :: mapF rb (s.tick now).1.m :: F) → K (I64 (s.tick now).2) H') :
    CallF Try.prog 12 #[.pointer (some ⟨mb, 0, none⟩), I64 now] H K := by
  refine mark_Tick.call ?_
  unfold mark_Tick.code
  refine h.al fun b _ h => h.al fun b1 _ h => ?_
  refine ⟨_, h.rd 0 rfl _, _, isTime_spec, _, fun _ => h.rd 0 rfl _, _, fun _ => h.rd 1 rfl _, fun _ => trivial, _, fun _ => h.rd 2 rfl _, fun hc => ?_, fun hc => ?_⟩
  · have e : s.tick now = (s, 11) := if_pos (by simp only [Bool.or_eq_true, Bool.not_eq_true', decide_eq_false_iff_not, decide_eq_true_eq] at hc; exact hc)
    rw [e] at k
    exact k _ h.tl.tl
  have hc' : ¬ (¬ isT now ∨ now < s.now) := by
    simp only [Bool.or_eq_false_iff, Bool.not_eq_false', decide_eq_false_iff_not, decide_eq_true_eq] at hc
    exact fun hh => hh.elim (fun h1 => h1 hc.1) hc.2
  have hn : isT now := by
    rcases Classical.em (isT now) with h | h
    · exact h
    · exact absurd (Or.inl h) hc'
  have e : s.tick now = ({ s with now := now, value := maxI s.value (foldL (now - s.lag) s.m (sortI (keysOf s.m)) (now - s.lag, false)).1, m := s.m.map fun p => (p.1, updF (now - s.lag) p.2) }, 0) := if_neg hc'
  rw [e] at k
  have hl1 := ok.l1
  have hl2 := ok.l2
  refine ⟨_, h.rd 1 rfl _, _, h.rd 0 rfl _, nn_some (h.st 2 rfl rfl fun _ h => ?_)⟩
  intro Jn hJ
  have fin : ∀ lb fb H', SatL H' (cellsA b1 [I64 now] 2 :: cellsA b [.pointer (some ⟨mb, 0, none⟩)] 24 :: cellsA lb [I64 (now - s.lag)] 2 :: cellsA fb [.bool false] 4 :: markC mb rb { s with now := now } :: mapF rb s.m :: F) → Jn lb 0 fb 0 H' := by
    intro lb fb H' h
    refine hJ _ _ _ _ _ ?_
    unfold mark_Tick.r2
    refine ⟨_, h.rd 1 rfl _, All_spec h fun c0 H4 h => ⟨_, _, rfl, rfl, fun R hR1 hR2 hy => ?_⟩⟩
    have h := h.rng R
    have h : SatL _ (markC mb rb { s with now := now } :: mapF rb s.m :: star [cellsA b [.pointer (some ⟨mb, 0, none⟩)] 24, cellsA b1 [I64 now] 2, cellsA lb [I64 (now - s.lag)] 2, cellsA fb [.bool false] 4, pt (H4.size + 1) (.loop R)] :: cellsA c0 [.pointer (some ⟨mb, 0, none⟩)] 24 :: pt H4.size (.deferred (some [])) :: F) :=
      (SatL.shut [_, _, _, _, _] (h.ordt [4, 3, 5, 6, 0, 7, 8, 2, 1] 9 (by decide) (by decide))).ordt [1, 2, 0] 3 (by decide) (by decide)
    refine All1_spec (s := { s with now := now }) ⟨ok.l1, ok.l2, hn, ok.v1, ok.v2, ok.nd, ok.rows⟩ (fun j => tkA mb rb b b1 lb fb (H4.size + 1) R s now j) (pur False) _ h (fun G H' h => ?_)
      (fun j hj G H1 K1 h1 kt _ => hy _ _ _ (Tick_round ok hn hj h1 kt)) (fun H5 h5 => ?_) (fun H5 h5 => (SatL.consP h5).1.elim)
    · unfold tkA
      rw [List.take_zero, mjT_nil]
      refine SatL.shut [_, _, _, _, _, _, _] ?_
      exact ((h.ordt [2, 0, 1] 3 (by decide) (by decide)).open).ordt [5, 6, 0, 1, 2, 3, 4] 7 (by decide) (by decide)
    · have h := SatL.open (A := [_, _, _, _, _, _, _]) h5
      have e1 : (ksOf { s with now := now }).length = (ksOf s).length := rfl
      rw [e1, List.take_of_length_le (Nat.le_refl _), mjT_all (fun x hx => sortI_mem.2 hx)] at h
      refine ⟨.ready, none, by decide, by rw [loop_eta hR1 hR2]; exact h.getO 6 rfl, h.stl 6 rfl fun H9 h => ⟨rfl, ?_⟩⟩
      refine ⟨_, h.rd 2 rfl _, _, h.rd 2 rfl _, nn_some ⟨_, h.rd 0 rfl _, _, h.rd 4 rfl _, nn_some (h.st 0 rfl rfl fun _ h => ⟨h.getO 8 rfl, ?_⟩)⟩⟩
      have h := h.setO 8 rfl (.deferred none)
      exact k _ (h.ordt [0, 1] 9 (by decide) (by decide))
  refine ⟨_, h.rd 0 rfl _, _, h.rd 1 rfl _, nn_some ⟨_, h.rd 2 rfl _, ?_⟩⟩
  rw [w64 (x := now - s.lag) (by omega) (by omega)]
  refine ⟨h.al fun lb _ h => ⟨h.rd 3 rfl _, h.rd 2 rfl _, h.rd 1 rfl _, h.al fun fb _ h => ⟨h.rd 4 rfl _, h.rd 3 rfl _, h.rd 2 rfl _, h.st 1 rfl rfl fun _ h => h.st 0 rfl rfl fun _ h => ?_⟩⟩,
    h.al fun fb _ h => ⟨h.rd 3 rfl _, h.rd 2 rfl _, h.rd 1 rfl _, h.al fun lb _ h => ⟨h.rd 4 rfl _, h.rd 3 rfl _, h.rd 2 rfl _, h.st 0 rfl rfl fun _ h => h.st 1 rfl rfl fun _ h => ?_⟩⟩⟩
  · exact fin lb fb _ (h.ordt [2, 3, 1, 0] 4 (by decide) (by decide))
  · exact fin lb fb _ (h.ordt [2, 3, 0, 1] 4 (by decide) (by decide))
end
end Go.Proofs.Ytomokmhkgpfkmaa
