/-
  The mark's functions, walked (1).
-/
import Derived.Test.YtomokmhkgpfkmaaKS
import Derived.Test.YtomokmhkgpfkmaaMK
import Derived.Test.YtomokmhkgpfkmaaMR
set_option linter.unusedVariables false
set_option linter.unusedSimpArgs false
namespace Go.Proofs.Ytomokmhkgpfkmaa
open Go Go.Nm Go.Proofs

abbrev I64 := Value.int .i64
theorem mt45 : MapT Try.prog 45 2 40 aggF Fl.z := mapT_of Try.underlying45 (by kernel_rfl)
theorem ko2 : KeyOK Try.prog 2 I64 := keyOK_int Try.underlying2
abbrev markC (mb rb : Nat) (s : MS) : Assn := cellsA mb [I64 s.lag, I64 s.now, I64 s.value, .map (some rb)] 53
abbrev mapF (rb : Nat) (m : FM) : Assn := mapA I64 aggF rb m
theorem X_all_calls {f : FuncId} (h : (memN f X.calls) = true) : memN f X.calls = true := h

section
variable {mb rb : Nat} {s : MS} {F : List Assn} {H : Heap} {K : Value → Heap → Prop}

theorem isTime_spec {t : Int} : CallQ Try.prog 25 #[I64 t] H (.bool (decide (isT t))) := by
  refine mark_isTime.call ⟨congrArg Value.bool ?_, rfl⟩
  rw [Bool.eq_iff_iff]; simp [isT]
theorem isAgent_spec {a : Int} : CallQ Try.prog 32 #[I64 a] H (.bool (decide (isAg a))) := by
  refine mark_isAgent.call ⟨congrArg Value.bool ?_, rfl⟩
  rw [Bool.eq_iff_iff]; simp [isAg]
theorem Now_spec (h : SatL H F) (i : Nat) (hA : nth i F = markC mb rb s) : CallQ Try.prog 9 #[.pointer (some ⟨mb, 0, none⟩)] H (I64 s.now) := by
  unfold CallQ
  refine mark_Now.call ?_
  unfold mark_Now.code
  exact ⟨_, h.rd i hA _, rfl, rfl⟩
theorem Value_spec (h : SatL H F) (i : Nat) (hA : nth i F = markC mb rb s) : CallQ Try.prog 8 #[.pointer (some ⟨mb, 0, none⟩)] H (I64 s.value) := by
  unfold CallQ
  refine mark_Value.call ?_
  unfold mark_Value.code
  exact ⟨_, h.rd i hA _, rfl, rfl⟩
theorem New_spec {lag : Int} (h : SatL H F) (k1 : lag < 1 ∨ 1099511627776 < lag → K (.tuple #[.pointer none, I64 11]) H)
    (k2 : 1 ≤ lag → lag ≤ 1099511627776 → ∀ mb rb H', SatL H' (markC mb rb (MS.new lag) :: mapF rb [] :: F) → K (.tuple #[.pointer (some ⟨mb, 0, none⟩), I64 0]) H') :
    CallF Try.prog 7 #[I64 lag] H K := by
  refine mark_New.call ⟨fun hc => k1 (by simpa using hc), fun hc => ?_⟩
  have hc : 1 ≤ lag ∧ lag ≤ 1099511627776 := by simp at hc; omega
  refine h.alm I64 aggF fun rb _ h => ?_
  rw [w64 (x := 0 - lag) (by omega) (by omega)]
  refine h.al fun mb _ h => k2 hc.1 hc.2 mb rb _ ?_
  have e : (0 : Int) - lag = -lag := by omega
  rw [e] at h
  exact h
theorem Of_spec {a : Int} (h : SatL H (markC mb rb s :: mapF rb s.m :: F))
    (k : ∀ H', SatL H' (markC mb rb s :: mapF rb s.m :: F) → K (.tuple #[aggF ((mlook a s.m).getD Fl.z), .bool (mlook a s.m).isSome]) H') :
    CallF Try.prog 11 #[.pointer (some ⟨mb, 0, none⟩), I64 a] H K := by
  refine mark_Of.call ?_
  unfold mark_Of.code
  repeat (first
    | refine h.al fun _ _ h => ?_
    | refine nn_some ?_
    | refine ⟨fun _ => trivial, ?_⟩
    | refine ⟨_, h.rd 0 rfl _, ?_⟩
    | refine ⟨_, h.rd 1 rfl _, ?_⟩
    | refine h.st 0 rfl rfl fun _ h => ?_
    | refine h.st 1 rfl rfl fun _ h => ?_
    | refine ⟨_, fun _ => h.rd 0 rfl _, ?_⟩
    | refine ⟨_, fun _ => h.rd 1 rfl _, ?_⟩)
  refine ⟨_, _, _, _, _, h.mp_get mt45 ko2 2 rfl, ?_⟩
  repeat (first
    | refine h.al fun _ _ h => ?_
    | refine nn_some ?_
    | refine ⟨fun _ => trivial, ?_⟩
    | refine ⟨_, h.rd 0 rfl _, ?_⟩
    | refine ⟨_, h.rd 1 rfl _, ?_⟩
    | refine ⟨_, h.rd 2 rfl _, ?_⟩
    | refine h.st 0 rfl rfl fun _ h => ?_
    | refine h.st 1 rfl rfl fun _ h => ?_
    | refine h.st 2 rfl rfl fun _ h => ?_
    | refine ⟨_, _, _, _, h.rds 0 rfl rfl, ?_⟩
    | refine ⟨_, _, _, _, h.rds 1 rfl rfl, ?_⟩
    | refine ⟨_, _, _, _, h.rds 2 rfl rfl, ?_⟩
    | refine ⟨_, fun _ => h.rd 0 rfl _, ?_⟩
    | refine ⟨_, fun _ => h.rd 1 rfl _, ?_⟩
    | refine ⟨_, fun _ => h.rd 2 rfl _, ?_⟩
    | refine ⟨_, _, _, _, fun _ => h.rds 0 rfl rfl, ?_⟩
    | refine ⟨_, _, _, _, fun _ => h.rds 1 rfl rfl, ?_⟩
    | refine ⟨_, _, _, _, fun _ => h.rds 2 rfl rfl, ?_⟩)
  exact k _ h.tl.tl
theorem Join_spec {a t : Int} (h : SatL H (markC mb rb s :: mapF rb s.m :: F))
    (k : ∀ H', SatL H' (markC mb rb (s.join a t).1 :: mapF rb (s.join a t).1.m :: F) → K (I64 (s.join a t).2) H') :
    CallF Try.prog 15 #[.pointer (some ⟨mb, 0, none⟩), I64 a, I64 t] H K := by
  refine mark_Join.call ?_
  unfold mark_Join.code
  refine ⟨_, isAgent_spec, _, fun _ => isTime_spec, fun hc => ?_, fun hc => ?_⟩
  · have e : s.join a t = (s, 11) := if_pos (by simp only [Bool.or_eq_true, Bool.not_eq_true', decide_eq_false_iff_not] at hc; exact hc)
    rw [e] at k
    exact k _ h
  have hn : ¬ (¬ isAg a ∨ ¬ isT t) := by simpa using hc
  repeat (first
    | refine h.al fun _ _ h => ?_
    | refine nn_some ?_
    | refine ⟨fun _ => trivial, ?_⟩
    | refine ⟨_, h.rd 0 rfl _, ?_⟩
    | refine h.st 0 rfl rfl fun _ h => ?_
    | refine ⟨_, fun _ => h.rd 0 rfl _, ?_⟩)
  refine ⟨_, _, _, _, _, h.mp_get mt45 ko2 1 rfl, ?_⟩
  repeat (first
    | refine h.al fun _ _ h => ?_
    | refine nn_some ?_
    | refine ⟨fun _ => trivial, ?_⟩
    | refine ⟨_, h.rd 0 rfl _, ?_⟩
    | refine h.st 0 rfl rfl fun _ h => ?_
    | refine ⟨_, fun _ => h.rd 0 rfl _, ?_⟩)
  cases hl : mlook a s.m with
  | some x =>
    have e : s.join a t = (s, 18) := by unfold MS.join; rw [if_neg hn, hl]
    rw [e] at k
    exact ⟨fun _ => k _ h.tl, fun hf => by cases hf⟩
  | none =>
    have e : s.join a t = ({ s with m := mset a ⟨t, false, false, false⟩ s.m }, 0) := by unfold MS.join; rw [if_neg hn, hl]
    rw [e] at k
    refine ⟨fun hf => (by cases hf), fun _ => ?_⟩
    repeat (first
      | refine h.al fun _ _ h => ?_
      | refine nn_some ?_
      | refine ⟨fun _ => trivial, ?_⟩
      | refine ⟨_, h.rd 0 rfl _, ?_⟩
      | refine ⟨_, h.rd 1 rfl _, ?_⟩
      | refine h.st 0 rfl rfl fun _ h => ?_
      | refine h.st 1 rfl rfl fun _ h => ?_
      | refine ⟨_, fun _ => h.rd 0 rfl _, ?_⟩
      | refine ⟨_, fun _ => h.rd 1 rfl _, ?_⟩)
    exact h.mp_update (α := Fl) (v := ⟨t, false, false, false⟩) mt45 ko2 2 rfl fun H' h => k _ h.tl
theorem Leave_spec {a : Int} (h : SatL H (markC mb rb s :: mapF rb s.m :: F))
    (k : ∀ H', SatL H' (markC mb rb (s.leave a).1 :: mapF rb (s.leave a).1.m :: F) → K (I64 (s.leave a).2) H') :
    CallF Try.prog 17 #[.pointer (some ⟨mb, 0, none⟩), I64 a] H K := by
  refine mark_Leave.call ?_
  unfold mark_Leave.code
  repeat (first
    | refine h.al fun _ _ h => ?_
    | refine nn_some ?_
    | refine ⟨fun _ => trivial, ?_⟩
    | refine ⟨_, h.rd 0 rfl _, ?_⟩
    | refine h.st 0 rfl rfl fun _ h => ?_
    | refine ⟨_, fun _ => h.rd 0 rfl _, ?_⟩)
  refine ⟨_, _, _, _, _, h.mp_get mt45 ko2 1 rfl, ?_⟩
  repeat (first
    | refine h.al fun _ _ h => ?_
    | refine nn_some ?_
    | refine ⟨fun _ => trivial, ?_⟩
    | refine ⟨_, h.rd 0 rfl _, ?_⟩
    | refine h.st 0 rfl rfl fun _ h => ?_
    | refine ⟨_, fun _ => h.rd 0 rfl _, ?_⟩)
  cases hl : mlook a s.m with
  | none =>
    have e : s.leave a = (s, 19) := by unfold MS.leave; rw [hl]
    rw [e] at k
    exact ⟨fun _ => k _ h.tl, fun hf => by cases hf⟩
  | some x =>
    have e : s.leave a = ({ s with m := mdel a s.m }, 0) := by unfold MS.leave; rw [hl]
    rw [e] at k
    refine ⟨fun hf => (by cases hf), fun _ => ?_⟩
    repeat (first
      | refine h.al fun _ _ h => ?_
      | refine nn_some ?_
      | refine ⟨fun _ => trivial, ?_⟩
      | refine ⟨_, h.rd 0 rfl _, ?_⟩
      | refine ⟨_, h.rd 1 rfl _, ?_⟩
      | refine h.st 0 rfl rfl fun _ h => ?_
      | refine h.st 1 rfl rfl fun _ h => ?_
      | refine ⟨_, fun _ => h.rd 0 rfl _, ?_⟩
      | refine ⟨_, fun _ => h.rd 1 rfl _, ?_⟩)
    exact h.mp_delete mt45 ko2 2 rfl fun H' h => k _ h.tl
theorem Clone_spec (h : SatL H (markC mb rb s :: mapF rb s.m :: F))
    (k : ∀ mb' rb' H', SatL H' (markC mb' rb' s :: mapF rb' s.m :: markC mb rb s :: mapF rb s.m :: F) → K (.pointer (some ⟨mb', 0, none⟩)) H') :
    CallF Try.prog 14 #[.pointer (some ⟨mb, 0, none⟩)] H K := by
  refine mark_Clone.call ?_
  unfold mark_Clone.code
  refine ⟨_, _, _, _, h.rds 0 rfl rfl, ?_⟩
  repeat (first
    | refine h.al fun _ _ h => ?_
    | refine nn_some ?_
    | refine ⟨fun _ => trivial, ?_⟩
    | refine ⟨_, h.rd 0 rfl _, ?_⟩
    | refine ⟨_, h.rd 1 rfl _, ?_⟩
    | refine h.st 0 rfl rfl fun _ h => ?_
    | refine h.st 1 rfl rfl fun _ h => ?_
    | refine ⟨_, fun _ => h.rd 0 rfl _, ?_⟩
    | refine ⟨_, fun _ => h.rd 1 rfl _, ?_⟩)
  refine Clone_call h 2 rfl fun H' h _ => ⟨_, rfl, ?_⟩
  refine h.st 1 rfl rfl fun _ h => ?_
  exact k _ _ _ (h.ordt [1, 0, 2, 3] 4 (by decide) (by decide))

theorem change_spec {a : Int} {f : FuncId} {cap : List Value} (hf : memN f X.calls = true) (h : SatL H (markC mb rb s :: mapF rb s.m :: F))
    (k1 : mlook a s.m = none → ∀ H', SatL H' (markC mb rb s :: mapF rb s.m :: F) → K (I64 19) H')
    (hb : ∀ x, mlook a s.m = some x → ∀ b H1, SatL H1 (cellsA b (encF x) 40 :: markC mb rb s :: mapF rb s.m :: F) →
      CallF Try.prog f ⟨(.pointer (some ⟨b, 0, none⟩)) :: cap⟩ H1 fun u H2 => (∃ r : Int, u = I64 r ∧ r ≠ 0 ∧ K (I64 r) H2) ∨
        (u = I64 0 ∧ ∃ x' F', SatL H2 (cellsA b (encF x') 40 :: markC mb rb s :: mapF rb s.m :: F') ∧ ∀ H3, SatL H3 (markC mb rb s :: mapF rb (mset a x' s.m) :: F') → K (I64 0) H3)) :
    CallF Try.prog 26 #[.pointer (some ⟨mb, 0, none⟩), I64 a, .func (.func f) #[] ⟨cap⟩] H K := by
  refine mark_change.call ?_
  unfold mark_change.code
  repeat (first
    | refine h.al fun _ _ h => ?_
    | refine nn_some ?_
    | refine ⟨fun _ => trivial, ?_⟩
    | refine ⟨_, h.rd 0 rfl _, ?_⟩
    | refine h.st 0 rfl rfl fun _ h => ?_
    | refine ⟨_, fun _ => h.rd 0 rfl _, ?_⟩)
  have hl := h.mp_get mt45 ko2 1 rfl (x := a)
  cases hm : mlook a s.m with
  | none =>
    rw [hm] at hl
    refine ⟨_, _, _, _, _, hl, ?_⟩
    repeat (first
      | refine h.al fun _ _ h => ?_
      | refine nn_some ?_
      | refine ⟨fun _ => trivial, ?_⟩
      | refine ⟨_, h.rd 0 rfl _, ?_⟩
      | refine h.st 0 rfl rfl fun _ h => ?_
      | refine ⟨_, fun _ => h.rd 0 rfl _, ?_⟩)
    exact ⟨fun _ => k1 hm _ h.tl, fun hf => by cases hf⟩
  | some x =>
    rw [hm] at hl
    refine ⟨_, _, _, _, _, hl, ?_⟩
    repeat (first
      | refine h.al fun _ _ h => ?_
      | refine nn_some ?_
      | refine ⟨fun _ => trivial, ?_⟩
      | refine ⟨_, h.rd 0 rfl _, ?_⟩
      | refine h.st 0 rfl rfl fun _ h => ?_
      | refine ⟨_, fun _ => h.rd 0 rfl _, ?_⟩)
    refine ⟨fun hf => (by cases hf), fun _ => ⟨hf, (hb x hm _ _ h).mono fun u H2 hu => ?_⟩⟩
    rcases hu with ⟨r, rfl, hr, hk⟩ | ⟨rfl, x', F', h2, hk⟩
    · exact ⟨r, rfl, fun _ => hk, fun hf => absurd (by simpa using hf) hr⟩
    · refine ⟨0, rfl, fun hf => by simp at hf, fun _ => ?_⟩
      refine ⟨_, h2.rd 1 rfl _, _, _, _, _, h2.rds 0 rfl rfl, ?_⟩
      exact h2.mp_update (α := Fl) (v := x') mt45 ko2 2 rfl fun H' h => hk _ h.tl

theorem Raise_spec {a t : Int} (h : SatL H (markC mb rb s :: mapF rb s.m :: F))
    (k : ∀ H', SatL H' (markC mb rb (s.raise a t).1 :: mapF rb (s.raise a t).1.m :: F) → K (I64 (s.raise a t).2) H') :
    CallF Try.prog 16 #[.pointer (some ⟨mb, 0, none⟩), I64 a, I64 t] H K := by
  refine mark_Raise.call ?_
  unfold mark_Raise.code
  refine h.al fun c _ h => ?_
  refine change_spec (F := cellsA c [I64 t] 2 :: F) rfl (h.ordt [1, 2, 0] 3 (by decide) (by decide)) (fun hn H' h => ⟨_, rfl, ?_⟩) fun x hx b H1 h => ?_
  · have e : s.raise a t = (s, 19) := by unfold MS.raise; rw [hn]
    rw [e] at k
    exact k _ (h.ordt [0, 1] 3 (by decide) (by decide))
  refine mark_Raise_1.call ?_
  unfold mark_Raise_1.code
  refine ⟨_, h.rd 3 rfl _, _, isTime_spec, fun hc => ?_, fun hc => ?_⟩
  · have hT : ¬ isT t := by simp only [Bool.not_eq_true', decide_eq_false_iff_not] at hc; exact hc
    have e : s.raise a t = (s, 11) := by unfold MS.raise; rw [hx]; exact if_pos hT
    rw [e] at k
    exact .inl ⟨11, rfl, by decide, _, rfl, k _ (h.ordt [1, 2] 4 (by decide) (by decide))⟩
  · have hT : ¬ ¬ isT t := by simpa using hc
    have e : s.raise a t = ({ s with m := mset a ⟨if t > x.t then t else x.t, x.out, x.was, x.held⟩ s.m }, 0) := by unfold MS.raise; rw [hx]; exact if_neg hT
    rw [e] at k
    refine ⟨_, h.rd 0 rfl _, _, h.rd 3 rfl _, ?_⟩
    refine h.st 0 rfl rfl fun _ h => .inr ⟨rfl, ⟨if t > x.t then t else x.t, x.out, x.was, x.held⟩, _, h, fun H3 h => ⟨_, rfl, ?_⟩⟩
    exact k _ (h.ordt [0, 1] 3 (by decide) (by decide))
theorem Hold_spec {a : Int} {v : Bool} (h : SatL H (markC mb rb s :: mapF rb s.m :: F))
    (k : ∀ H', SatL H' (markC mb rb (s.hold a v).1 :: mapF rb (s.hold a v).1.m :: F) → K (I64 (s.hold a v).2) H') :
    CallF Try.prog 18 #[.pointer (some ⟨mb, 0, none⟩), I64 a, .bool v] H K := by
  refine mark_Hold.call ?_
  unfold mark_Hold.code
  refine h.al fun c _ h => ?_
  refine change_spec (F := cellsA c [.bool v] 4 :: F) rfl (h.ordt [1, 2, 0] 3 (by decide) (by decide)) (fun hn H' h => ⟨_, rfl, ?_⟩) fun x hx b H1 h => ?_
  · have e : s.hold a v = (s, 19) := by unfold MS.hold; rw [hn]
    rw [e] at k
    exact k _ (h.ordt [0, 1] 3 (by decide) (by decide))
  refine mark_Hold_1.call ?_
  unfold mark_Hold_1.code
  have e : s.hold a v = ({ s with m := mset a ⟨x.t, x.out, x.was, v⟩ s.m }, 0) := by unfold MS.hold; rw [hx]
  rw [e] at k
  refine ⟨_, h.rd 3 rfl _, ?_⟩
  refine h.st 0 rfl rfl fun _ h => .inr ⟨rfl, ⟨x.t, x.out, x.was, v⟩, _, h, fun H3 h => ⟨_, rfl, ?_⟩⟩
  exact k _ (h.ordt [0, 1] 3 (by decide) (by decide))
end
end Go.Proofs.Ytomokmhkgpfkmaa
