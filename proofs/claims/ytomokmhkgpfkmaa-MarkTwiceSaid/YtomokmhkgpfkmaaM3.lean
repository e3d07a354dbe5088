/-
  The document's mark without agents, walked; a call on both; Set.
-/
import Derived.Test.YtomokmhkgpfkmaaM2
set_option linter.unusedVariables false
set_option linter.unusedSimpArgs false
namespace Go.Proofs.Ytomokmhkgpfkmaa
open Go Go.Nm Go.Proofs

abbrev encU (_ : Unit) : List Value := [.bool false, I64 0, .bool false, .bool false, .bool false]
theorem encU_len (x : Unit) : (encU x).length = 5 := rfl
abbrev rowsU : List Unit := List.replicate 64 ()
abbrev refZ (sb : Nat) (now : Int) : Assn := cellsA sb ([I64 0, I64 now, I64 0] ++ flat encU rowsU) 37

def doM (s : MS) (what a t : Int) (b : Bool) : MS :=
  if what = 0 then (s.join a t).1 else if what = 1 then (s.raise a t).1 else if what = 2 then (s.hold a b).1 else if what = 3 then (s.leave a).1 else if what = 4 then (s.tick t).1 else s
theorem MOk.doM {s : MS} (h : MOk s) (what a t : Int) (b : Bool) : MOk (doM s what a t b) := by
  unfold Go.Proofs.Ytomokmhkgpfkmaa.doM
  split
  · exact h.join a t
  split
  · exact h.raise a t
  split
  · exact h.hold a b
  split
  · exact h.leave a
  split
  · exact h.tick t
  · exact h

section
variable {mb rb sb : Nat} {s : MS} {F : List Assn} {H : Heap} {K : Value → Heap → Prop}

theorem time_spec {t : Int} : CallQ Try.prog 35 #[I64 t] H (.bool (decide (isT t))) := by
  refine R20_time.call ⟨congrArg Value.bool ?_, rfl⟩
  rw [Bool.eq_iff_iff]; simp [isT]
theorem has_spec {a : Int} (h : SatL H (refZ sb 0 :: F)) : CallQ Try.prog 36 #[.pointer (some ⟨sb, 0, none⟩), I64 a] H (.bool false) := by
  unfold CallQ
  refine R20_Mark_has.call ?_
  unfold R20_Mark_has.code
  refine ⟨fun _ => trivial, fun hc => ?_, false, fun hc => ?_, ?_, rfl⟩
  · simp only [Bool.and_eq_true, decide_eq_true_eq] at hc; omega
  · simp only [Bool.and_eq_true, decide_eq_true_eq] at hc
    exact h.row_rd 0 rfl encU_len (k := a.toNat) (by simp; omega) 0 rfl rfl
  · simp
theorem RJoin_spec {a t : Int} (h : SatL H (refZ sb 0 :: F)) (k : ∀ r H', SatL H' F → K (I64 r) H') : CallF Try.prog 20 #[.pointer (some ⟨sb, 0, none⟩), I64 a, I64 t] H K := by
  refine R20_Mark_Join.call ?_
  unfold R20_Mark_Join.code
  refine ⟨_, fun _ => time_spec, fun _ => k _ _ h.tl, fun hc => ⟨_, has_spec h, fun hf => (by cases hf), fun _ => ?_⟩⟩
  have ha : 0 ≤ a ∧ a < 64 := by
    simp only [Bool.or_eq_false_iff, decide_eq_false_iff_not] at hc; omega
  refine ⟨ha, h.can 0 rfl _ _ ?_, ?_⟩
  · rw [List.length_append, flat_length encU_len]; simp; omega
  · rintro H' rfl
    exact k _ _ (h.set 0 rfl _ _).tl
theorem RRaise_spec {a t : Int} (h : SatL H (refZ sb 0 :: F)) (k : ∀ r H', SatL H' F → K (I64 r) H') : CallF Try.prog 21 #[.pointer (some ⟨sb, 0, none⟩), I64 a, I64 t] H K := by
  refine R20_Mark_Raise.call ?_
  unfold R20_Mark_Raise.code
  exact ⟨_, has_spec h, fun _ => k _ _ h.tl, fun hf => (by cases hf)⟩
theorem RHold_spec {a : Int} {v : Bool} (h : SatL H (refZ sb 0 :: F)) (k : ∀ r H', SatL H' F → K (I64 r) H') : CallF Try.prog 22 #[.pointer (some ⟨sb, 0, none⟩), I64 a, .bool v] H K := by
  refine R20_Mark_Hold.call ?_
  unfold R20_Mark_Hold.code
  exact ⟨_, has_spec h, fun _ => k _ _ h.tl, fun hf => (by cases hf)⟩
theorem RLeave_spec {a : Int} (h : SatL H (refZ sb 0 :: F)) (k : ∀ r H', SatL H' F → K (I64 r) H') : CallF Try.prog 23 #[.pointer (some ⟨sb, 0, none⟩), I64 a] H K := by
  refine R20_Mark_Leave.call ?_
  unfold R20_Mark_Leave.code
  exact ⟨_, has_spec h, fun _ => k _ _ h.tl, fun hf => (by cases hf)⟩
set_option maxRecDepth 20000 in
theorem RTick_spec {t : Int} (h : SatL H (refZ sb 0 :: F)) (k : ∀ r H', SatL H' F → K (I64 r) H') : CallF Try.prog 24 #[.pointer (some ⟨sb, 0, none⟩), I64 t] H K := by
  refine R20_Mark_Tick.call ?_
  unfold R20_Mark_Tick.code
  refine ⟨_, time_spec, fun _ => trivial, _, fun _ => h.rd 0 rfl _, fun _ => k _ _ h.tl, fun hc => ?_⟩
  have ht : isT t := by
    simp only [Bool.or_eq_false_iff, Bool.not_eq_false', decide_eq_true_eq] at hc
    exact hc.1
  refine h.st 0 rfl rfl fun H1 h => ?_
  have h : SatL H1 (refZ sb t :: F) := h
  refine ⟨fun sm _ i H' => sm = false ∧ ∃ j : Nat, i = j ∧ j ≤ 64 ∧ SatL H' (refZ sb t :: F), fun _ _ i _ => 64 - i.toNat, ⟨rfl, 0, rfl, by omega, h⟩, ?_⟩
  rintro sm least i H2 ⟨rfl, j, rfl, hj, h⟩
  unfold R20_Mark_Tick.l4
  refine ⟨fun hc1 => ?_, fun hc1 => ?_⟩
  · have hlt : j < 64 := by have := of_decide_eq_true hc1; omega
    intro Jn hJ
    refine ⟨⟨by omega, by omega⟩, _, h.row_rd 0 rfl encU_len (k := j) (by simp; omega) 0 rfl (by simp), fun _ => hJ _ _ _ ?_, fun hf => (by cases hf)⟩
    unfold R20_Mark_Tick.r1
    rw [w64 (x := (j : Int) + 1) (by omega) (by omega)]
    exact ⟨⟨rfl, j + 1, rfl, hlt, h⟩, by simp only [Int.toNat_natCast]; omega⟩
  · intro Jn hJ
    refine ⟨fun _ => ⟨_, h.rd 0 rfl _, hJ _ _ ?_⟩, fun hf => (by cases hf)⟩
    unfold R20_Mark_Tick.r3
    refine ⟨_, h.rd 0 rfl _, h.st 0 rfl rfl fun _ h => k _ _ h.tl⟩

theorem Do_spec {what a t : Int} {b : Bool} (ok : MOk s) (h : SatL H (markC mb rb s :: mapF rb s.m :: refZ sb 0 :: F))
    (k : ∀ r H', SatL H' (markC mb rb (doM s what a t b) :: mapF rb (doM s what a t b).m :: F) → K (.bool r) H') :
    CallF Try.prog 10 #[.pointer (some ⟨mb, 0, none⟩), .pointer (some ⟨sb, 0, none⟩), .agg #[I64 what, I64 a, I64 t, .bool b]] H K := by
  refine Do.call ?_
  unfold Do.code
  refine h.al fun c _ h => ⟨_, h.rd 0 rfl _, fun hc => ?_, fun hc => ?_⟩
  · have hw := of_decide_eq_true hc
    have e : doM s what a t b = (s.join a t).1 := if_pos hw
    rw [e] at k
    refine ⟨_, h.rd 0 rfl _, _, h.rd 0 rfl _, _, h.rd 0 rfl _, _, h.rd 0 rfl _, ?_⟩
    refine Join_spec (F := refZ sb 0 :: cellsA c [I64 what, I64 a, I64 t, .bool b] 29 :: F) (h.ordt [1, 2, 3, 0] 4 (by decide) (by decide)) fun H1 h => ⟨_, rfl, h.rd 3 rfl _, h.rd 3 rfl _, ?_⟩
    exact RJoin_spec (h.ordt [2, 0, 1] 4 (by decide) (by decide)) fun r H2 h => ⟨r, rfl, k _ _ h⟩
  have n0 : ¬ what = 0 := of_decide_eq_false hc
  refine ⟨fun hc => ?_, fun hc => ?_⟩
  · have hw := of_decide_eq_true hc
    have e : doM s what a t b = (s.raise a t).1 := by unfold doM; rw [if_neg n0, if_pos hw]
    rw [e] at k
    refine ⟨_, h.rd 0 rfl _, _, h.rd 0 rfl _, _, h.rd 0 rfl _, _, h.rd 0 rfl _, ?_⟩
    refine Raise_spec (F := refZ sb 0 :: cellsA c [I64 what, I64 a, I64 t, .bool b] 29 :: F) (h.ordt [1, 2, 3, 0] 4 (by decide) (by decide)) fun H1 h => ⟨_, rfl, h.rd 3 rfl _, h.rd 3 rfl _, ?_⟩
    exact RRaise_spec (h.ordt [2, 0, 1] 4 (by decide) (by decide)) fun r H2 h => ⟨r, rfl, k _ _ h⟩
  have n1 : ¬ what = 1 := of_decide_eq_false hc
  refine ⟨fun hc => ?_, fun hc => ?_⟩
  · have hw := of_decide_eq_true hc
    have e : doM s what a t b = (s.hold a b).1 := by unfold doM; rw [if_neg n0, if_neg n1, if_pos hw]
    rw [e] at k
    refine ⟨_, h.rd 0 rfl _, _, h.rd 0 rfl _, _, h.rd 0 rfl _, _, h.rd 0 rfl _, ?_⟩
    refine Hold_spec (F := refZ sb 0 :: cellsA c [I64 what, I64 a, I64 t, .bool b] 29 :: F) (h.ordt [1, 2, 3, 0] 4 (by decide) (by decide)) fun H1 h => ⟨_, rfl, h.rd 3 rfl _, h.rd 3 rfl _, ?_⟩
    exact RHold_spec (h.ordt [2, 0, 1] 4 (by decide) (by decide)) fun r H2 h => ⟨r, rfl, k _ _ h⟩
  have n2 : ¬ what = 2 := of_decide_eq_false hc
  refine ⟨fun hc => ?_, fun hc => ?_⟩
  · have hw := of_decide_eq_true hc
    have e : doM s what a t b = (s.leave a).1 := by unfold doM; rw [if_neg n0, if_neg n1, if_neg n2, if_pos hw]
    rw [e] at k
    refine ⟨_, h.rd 0 rfl _, _, h.rd 0 rfl _, ?_⟩
    refine Leave_spec (F := refZ sb 0 :: cellsA c [I64 what, I64 a, I64 t, .bool b] 29 :: F) (h.ordt [1, 2, 3, 0] 4 (by decide) (by decide)) fun H1 h => ⟨_, rfl, h.rd 3 rfl _, ?_⟩
    exact RLeave_spec (h.ordt [2, 0, 1] 4 (by decide) (by decide)) fun r H2 h => ⟨r, rfl, k _ _ h⟩
  have n3 : ¬ what = 3 := of_decide_eq_false hc
  refine ⟨fun hc => ?_, fun hc => ?_⟩
  · have hw := of_decide_eq_true hc
    have e : doM s what a t b = (s.tick t).1 := by unfold doM; rw [if_neg n0, if_neg n1, if_neg n2, if_neg n3, if_pos hw]
    rw [e] at k
    refine ⟨_, h.rd 0 rfl _, _, h.rd 0 rfl _, ?_⟩
    refine Tick_spec (F := refZ sb 0 :: cellsA c [I64 what, I64 a, I64 t, .bool b] 29 :: F) ok (h.ordt [1, 2, 3, 0] 4 (by decide) (by decide)) fun H1 h => ⟨_, rfl, h.rd 3 rfl _, ?_⟩
    exact RTick_spec (h.ordt [2, 0, 1] 4 (by decide) (by decide)) fun r H2 h => ⟨r, rfl, k _ _ h⟩
  · have n4 : ¬ what = 4 := of_decide_eq_false hc
    have e : doM s what a t b = s := by unfold doM; rw [if_neg n0, if_neg n1, if_neg n2, if_neg n3, if_neg n4]
    rw [e] at k
    exact k _ _ (h.ordt [1, 2] 4 (by decide) (by decide))

theorem Set_spec {ag : FM} {ab : Nat} {now value : Int} (hn : isT now) (hl : 1 ≤ s.lag ∧ s.lag ≤ 1099511627776) (hv : now - s.lag ≤ value ∧ value ≤ now) (hr : ∀ p ∈ ag, isAg p.1 ∧ isT p.2.t)
    (h : SatL H (markC mb rb s :: mapF rb s.m :: mapF ab ag :: F))
    (k : ∀ rb' H', SatL H' (markC mb rb' ⟨s.lag, now, value, ag⟩ :: mapF rb' ag :: mapF ab ag :: F) → K (I64 0) H') :
    CallF Try.prog 19 #[.pointer (some ⟨mb, 0, none⟩), I64 now, I64 value, .map (some ab)] H K := by
  refine mark_Set.call ?_
  unfold mark_Set.code
  have e1 : IntKind.i64.wrap (now - s.lag) = now - s.lag := w64 (by omega) (by omega)
  refine ⟨_, isTime_spec, fun _ => trivial, _, fun _ => h.rd 0 rfl _, ?_⟩
  rw [e1, decide_eq_true hn, decide_eq_false (show ¬ value < now - s.lag by omega), decide_eq_false (show ¬ now < value by omega)]
  refine ⟨fun hf => (by cases hf), fun _ => ?_⟩
  refine h.alm I64 aggF fun b _ h => ?_
  refine h.rg_new mt45 3 rfl fun it H1 h => ⟨it, rfl, ?_⟩
  refine ⟨fun H' => ∃ dn : FM, SatL H' (mapF b dn :: markC mb rb s :: mapF rb s.m :: rngA I64 aggF it ab ag dn :: F), fun H' => ag.length - iterN H' it, ⟨[], h⟩, ?_⟩
  rintro H2 ⟨dn, h⟩
  unfold mark_Set.l1
  obtain ⟨hc0, hle⟩ := h.rg_count 3 rfl
  refine h.rg_next 3 rfl (fun hp => Or.inl ⟨rfl, fun hf => (by cases hf), fun _ => ?_⟩) fun p hpm hpn H3 h => Or.inr ⟨_, _, rfl, fun _ => ?_, fun hf => (by cases hf)⟩
  · have h := h.rg_map 3 rfl
    refine h.st 1 rfl rfl fun _ h => h.st 1 rfl rfl fun _ h => h.st 1 rfl rfl fun _ h => k b _ ?_
    have em : mapF b dn = mapF b ag := mapA_perm hp
    have h := h.ordt [1, 0, 3] 4 (by decide) (by decide)
    simp only [ordT, nth, dropL, put, em] at h
    exact h
  · have hent := SatL.rg_entry (P := Try.prog) h 3 rfl
    obtain ⟨hc1, hle1⟩ := h.rg_count 3 rfl
    rw [List.length_append, List.length_singleton] at hc1 hle1
    refine ⟨_, _, _, _, _, hent, ?_⟩
    refine h.al fun b2 _ h => ?_
    refine h.st 0 rfl rfl fun _ h => ?_
    have hq := hr p hpm
    refine ⟨_, isAgent_spec, _, fun _ => h.rd 0 rfl _, _, fun _ => isTime_spec, ?_⟩
    rw [decide_eq_true hq.1, decide_eq_true hq.2]
    refine ⟨fun hf => (by cases hf), fun _ => ⟨_, _, _, _, h.rds 0 rfl rfl, ?_⟩⟩
    refine h.mp_update (α := Fl) (v := p.2) mt45 ko2 1 rfl fun H4 h => ⟨⟨dn ++ [p], ?_⟩, ?_⟩
    · have em : mapF b (mset p.1 p.2 dn) = mapF b (dn ++ [p]) := mapA_perm (by
        unfold mset
        rw [mdel_of_none (mlook_none.2 hpn)]
        exact (List.perm_append_singleton p dn).symm)
      have h := h.tl
      simp only [put, em] at h
      exact h
    · obtain ⟨hc4, _⟩ := h.rg_count 4 rfl
      rw [List.length_append, List.length_singleton] at hc4
      simp only
      omega
end
end Go.Proofs.Ytomokmhkgpfkmaa
