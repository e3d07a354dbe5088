/-
  MarkRises, MarkKeeps.
-/
import Derived.Test.YtomokmhkgpfkmaaM5
import Derived.Test.YtomokmhkgpfkmaaRW
set_option linter.unusedVariables false
set_option linter.unusedSimpArgs false
namespace Go.Proofs.Ytomokmhkgpfkmaa
open Go Go.Nm Go.Proofs

structure CD where
  what : Int
  a : Int
  t : Int
  b : Bool
abbrev encC (x : CD) : List Value := [I64 x.what, I64 x.a, I64 x.t, .bool x.b]
theorem encC_len (x : CD) : (encC x).length = 4 := rfl
abbrev doC (s : MS) (x : CD) : MS := doM s x.what x.a x.t x.b

theorem reads_calls {H : Type} {enc : TypeId × Value → H} {W : World} {cs : List Value} (h : Reads enc Try.prog W 22 cs) :
    ∃ a c calls, cs = [.slice a (List.length calls) c] ∧ calls.length ≤ maxLen ∧ rdS W.heap a (flat encC calls) ∧ ∀ x ∈ calls, True := by
  refine reads_rows (sz := 4) Try.underlying22 (by kernel_rfl) (by decide) h (fun vs hv hl => ?_) encC_len
  obtain ⟨_, hf⟩ := reads_struct Try.underlying29 hv
  have c2 : Try.prog.cellsOf 2 = 1 := by kernel_rfl
  have c3 : Try.prog.cellsOf 3 = 1 := by kernel_rfl
  have c4 : Try.prog.cellsOf 4 = 1 := by kernel_rfl
  simp only [List.mem_cons, List.not_mem_nil, or_false, forall_eq_or_imp, forall_eq, c2, c3, c4] at hf
  obtain ⟨f1, f2, f3, f4⟩ := hf
  match vs, hl with
  | [x, y, z, u], _ =>
    simp only [List.drop_zero, List.take_succ_cons, List.take_zero, List.drop_succ_cons] at f1 f2 f3 f4
    obtain ⟨n1, e1, _, _⟩ := reads_int Try.underlying3 f1
    obtain ⟨n2, e2, _, _⟩ := reads_int Try.underlying2 f2
    obtain ⟨n3, e3, _, _⟩ := reads_int Try.underlying2 f3
    obtain ⟨b4, e4⟩ := reads_bool Try.underlying4 f4
    simp only [List.cons.injEq, and_true] at e1 e2 e3 e4
    subst e1; subst e2; subst e3; subst e4
    exact ⟨⟨n1, n2, n3, b4⟩, rfl, trivial⟩

section
variable {H0 : Heap} {ca : Option Addr} {cc : Nat} {calls : List CD} {lag : Int}

set_option maxRecDepth 20000 in
theorem MarkRises_true (hc : rdS H0 ca (flat encC calls)) :
    CallF Try.prog 3 #[I64 lag, .slice ca calls.length cc] H0 fun v H' => v = .bool true ∧ Grow H0 H' := by
  refine MarkRises.call ?_
  unfold MarkRises.code
  refine alive_spec (sat0 H0) fun H1 h => ⟨_, rfl, fun hc => (by cases hc), fun _ => ⟨fun _ => ⟨rfl, h.old_grow 0 rfl⟩, fun hlen => ?_⟩⟩
  have hlen : calls.length ≤ 100 := by have := of_decide_eq_false hlen; omega
  refine New_spec h (fun hm => ⟨_, _, rfl, fun _ => ⟨rfl, h.old_grow 0 rfl⟩, fun hc => (by cases hc)⟩) fun l1 l2 mb rb H2 h => ⟨_, _, rfl, fun hc => (by cases hc), fun _ => ?_⟩
  refine ⟨fun ahead i H' => ∃ (k : Nat) (s : MS), i = k ∧ k ≤ calls.length ∧ RInv lag ahead s ∧ SatL H' [markC mb rb s, mapF rb s.m, old H0], fun _ i _ => calls.length - i.toNat,
    ⟨0, MS.new lag, rfl, Nat.zero_le _, ⟨MOk.new l1 l2, rfl, by simp [MS.new], fun _ => ⟨fun p hp => (by cases hp), by simp only [MS.new]; omega⟩⟩, h⟩, ?_⟩
  rintro ahead i H4 ⟨k, s, rfl, hk, inv, h⟩
  unfold MarkRises.l1
  refine ⟨fun hc1 => ?_, fun hc1 => ⟨rfl, h.old_grow 2 rfl⟩⟩
  have hlt : k < calls.length := by have := of_decide_eq_true hc1; omega
  have hr := h.old_rd 2 rfl hc
  refine ⟨⟨by omega, by omega⟩, _, _, hr.some encC_len (by omega) hlt, _, _, _, _, hr.els encC_len hlt, ?_⟩
  generalize calls[k] = x
  refine h.al fun b1 _ h => h.st 0 rfl rfl fun _ h => ⟨_, Value_spec h 1 rfl, _, Now_spec h 1 rfl, ?_⟩
  refine h.al fun b2 H5 h => ?_
  have h : SatL H5 (refZ b2 0 :: cellsA b1 (encC x) 29 :: markC mb rb s :: mapF rb s.m :: [old H0]) := SatL.mono h fun _ hp => hp
  refine ⟨_, _, _, _, h.rds 1 rfl rfl, ?_⟩
  refine Do_spec (F := [cellsA b1 (encC x) 29, old H0]) inv.ok (h.ordt [2, 3, 0, 1, 4] 5 (by decide) (by decide)) fun r H6 h => ⟨_, rfl, ?_⟩
  obtain ⟨inv', hv, hn, hs⟩ := rises (what := x.what) (a := x.a) (t := x.t) (b := x.b) inv
  refine ⟨_, Value_spec h 0 rfl, _, fun _ => Now_spec h 0 rfl, _, fun _ => h.rd 2 rfl _, _, fun _ => Value_spec h 0 rfl, _, fun _ => Now_spec h 0 rfl, fun hf => ?_, fun _ => ?_⟩
  · exfalso
    simp only [Bool.or_eq_true, Bool.and_eq_true, decide_eq_true_eq, Bool.not_eq_true', decide_eq_false_iff_not] at hf
    rcases hf with (hf | hf) | ⟨hf, hf2⟩
    · omega
    · omega
    · have := hs hf
      rcases hf2 with hf2 | hf2
      · exact hf2 this.1
      · exact hf2 this.2
  refine ⟨_, fun _ => h.rd 2 rfl _, _, fun _ => h.rd 2 rfl _, _, h.rd 2 rfl _, _, fun _ => Value_spec h 0 rfl, _, fun _ => Now_spec h 0 rfl, _, fun _ => Value_spec h 0 rfl, _, fun _ => Now_spec h 0 rfl, fun hf => ?_, fun _ => ?_⟩
  · exfalso
    have hlg := inv'.lg
    have hlow := inv'.low
    have hok := inv'.ok.n
    simp only [Bool.or_eq_true, Bool.and_eq_true, decide_eq_true_eq, Bool.not_eq_true'] at hf
    rw [w64 (by omega) (by omega)] at hf
    rcases hf with hf | ⟨hf, hf2⟩
    · omega
    · have := (inv'.top hf).2
      omega
  · rw [w64 (x := (k : Int) + 1) (by omega) (by omega)]
    exact ⟨⟨k + 1, _, rfl, hlt, inv', h.ordt [0, 1, 3] 4 (by decide) (by decide)⟩, by simp only [Int.toNat_natCast]; omega⟩

set_option maxRecDepth 20000 in
theorem MarkKeeps_true {agent : Int} (hc : rdS H0 ca (flat encC calls)) :
    CallF Try.prog 4 #[I64 lag, .slice ca calls.length cc, I64 agent] H0 fun v H' => v = .bool true ∧ Grow H0 H' := by
  refine MarkKeeps.call ?_
  unfold MarkKeeps.code
  refine alive_spec (sat0 H0) fun H1 h => ⟨_, rfl, fun hc => (by cases hc), fun _ => ⟨fun _ => ⟨rfl, h.old_grow 0 rfl⟩, fun hlen => ?_⟩⟩
  have hlen : calls.length ≤ 100 := by have := of_decide_eq_false hlen; omega
  refine New_spec h (fun hm => ⟨_, _, rfl, fun _ => ⟨rfl, h.old_grow 0 rfl⟩, fun hc => (by cases hc)⟩) fun l1 l2 mb rb H2 h => ⟨_, _, rfl, fun hc => (by cases hc), fun _ => ?_⟩
  refine ⟨fun good i H' => ∃ (k : Nat) (s : MS), i = k ∧ k ≤ calls.length ∧ KInv agent good s ∧ SatL H' [markC mb rb s, mapF rb s.m, old H0], fun _ i _ => calls.length - i.toNat,
    ⟨0, MS.new lag, rfl, Nat.zero_le _, ⟨MOk.new l1 l2, fun hf => (by cases hf)⟩, h⟩, ?_⟩
  rintro good i H4 ⟨k, s, rfl, hk, inv, h⟩
  unfold MarkKeeps.l2
  refine ⟨fun hc1 => ?_, fun hc1 => ⟨rfl, h.old_grow 2 rfl⟩⟩
  have hlt : k < calls.length := by have := of_decide_eq_true hc1; omega
  have hr := h.old_rd 2 rfl hc
  refine ⟨⟨by omega, by omega⟩, _, _, hr.some encC_len (by omega) hlt, _, _, _, _, hr.els encC_len hlt, ?_⟩
  generalize calls[k] = x
  refine h.al fun b1 _ h => h.st 0 rfl rfl fun _ h => ⟨_, Value_spec h 1 rfl, ?_⟩
  refine Of_spec (F := [cellsA b1 (encC x) 29, old H0]) (h.ordt [1, 2, 0, 3] 4 (by decide) (by decide)) fun H5 h => ⟨_, _, _, _, _, rfl, ?_⟩
  refine h.al fun b2 _ h => h.st 0 rfl rfl fun _ h => ?_
  refine h.al fun b3 H6 h => ?_
  have h : SatL H6 (refZ b3 0 :: cellsA b2 (encF ((mlook agent s.m).getD Fl.z)) 40 :: markC mb rb s :: mapF rb s.m :: cellsA b1 (encC x) 29 :: [old H0]) := SatL.mono h fun _ hp => hp
  refine ⟨_, _, _, _, h.rds 4 rfl rfl, ?_⟩
  refine Do_spec (F := [old H0]) inv.ok (h.ordt [2, 3, 0, 5] 6 (by decide) (by decide)) fun r H7 h => ⟨_, rfl, ?_⟩
  have ok' := MOk.doM inv.ok x.what x.a x.t x.b
  refine Of_spec h fun H8 h => ⟨_, _, _, _, _, rfl, ?_⟩
  refine h.al fun b4 _ h => h.st 0 rfl rfl fun _ h => ?_
  generalize hs' : doM s x.what x.a x.t x.b = s' at *
  intro Jn hJ
  have fin : ∀ (good1 : Bool) H', SatL H' [cellsA b4 (encF ((mlook agent s'.m).getD Fl.z)) 40, markC mb rb s', mapF rb s'.m, old H0] →
      (good1 = true → ∀ y, mlook agent s'.m = some y → y.was = false → y.held = false → s'.value ≤ y.t) → Jn good1 H' := by
    intro good1 H' h hg
    refine hJ _ _ ?_
    unfold MarkKeeps.r1
    refine ⟨_, fun _ => h.rd 0 rfl _, _, fun _ => h.rd 0 rfl _, _, fun _ => Value_spec h 1 rfl, _, fun _ => h.rd 0 rfl _, fun hf => ?_, fun _ => ?_⟩
    · exfalso
      simp only [Bool.and_eq_true, Bool.not_eq_true', decide_eq_true_eq] at hf
      obtain ⟨⟨⟨⟨h1, h2⟩, h3⟩, h4⟩, h5⟩ := hf
      cases hm : mlook agent s'.m with
      | none => rw [hm] at h2; cases h2
      | some y =>
        rw [hm] at h3 h4 h5
        have := hg h1 y hm h3 h4
        simp only [Option.getD_some] at h5
        omega
    · rw [w64 (x := (k : Int) + 1) (by omega) (by omega)]
      refine ⟨⟨k + 1, s', rfl, hlt, ⟨ok', fun hg1 => ?_⟩, h.ordt [1, 2, 3] 4 (by decide) (by decide)⟩, by simp only [Int.toNat_natCast]; omega⟩
      simp only [Bool.and_eq_true, Bool.not_eq_true'] at hg1
      obtain ⟨⟨⟨h1, h2⟩, h3⟩, h4⟩ := hg1
      cases hm : mlook agent s'.m with
      | none => rw [hm] at h2; cases h2
      | some y =>
        rw [hm] at h3 h4
        exact ⟨y, rfl, hg h1 y hm h3 h4, h4⟩
  refine ⟨fun hc2 => ⟨_, h.rd 0 rfl _, fin _ _ h fun hg y hy h1 h2 => ?_⟩, fun hc2 => fin _ _ h fun hg y hy h1 h2 => ?_⟩
  · simp only [Bool.and_eq_true, Bool.not_eq_true', Option.isSome_eq_false_iff, Option.isNone_iff_eq_none] at hc2
    have hv : s'.value = s.value := by rw [← hs'] at hy ⊢; exact news hc2.2 hy
    rw [hy] at hg
    have := of_decide_eq_true hg
    rw [hv]; exact this
  · obtain ⟨x0, hx0, hv0, hh0⟩ := inv.g hg
    subst hs'
    exact keeps inv.ok hx0 hv0 hh0 hy h1 h2
end
end Go.Proofs.Ytomokmhkgpfkmaa
