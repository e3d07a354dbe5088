/-
  RollCalls.
-/
import Derived.Test.YtgkfpgocbciilaaR6
set_option linter.unusedVariables false
set_option linter.unusedSimpArgs false
namespace Go.Proofs.Ytgkfpgocbciilaa
open Go Go.Nm Go.Proofs

structure CallD where
  what : Int
  agent : Int
  boot : Int
  now : Int
  epoch : Int
def encC (c : CallD) : List Value := [I64 c.what, I64 c.agent, I64 c.boot, I64 c.now, I64 c.epoch]
theorem encC_len (c : CallD) : (encC c).length = 5 := rfl
theorem reads_calls {H : Type} {enc : TypeId × Value → H} {W : World} {cs : List Value} (h : Reads enc Try.prog W 22 cs) :
    ∃ a c calls, cs = [.slice a (List.length calls) c] ∧ calls.length ≤ maxLen ∧ rdS W.heap a (flat encC calls) ∧ ∀ x ∈ calls, True := by
  refine reads_rows (sz := 5) Try.underlying22 (by kernel_rfl) (by decide) h (fun vs hv hl => ?_) encC_len
  obtain ⟨_, hf⟩ := reads_struct Try.underlying32 hv
  have c2 : Try.prog.cellsOf 2 = 1 := by kernel_rfl
  have c3 : Try.prog.cellsOf 3 = 1 := by kernel_rfl
  simp only [List.mem_cons, List.not_mem_nil, or_false, forall_eq_or_imp, forall_eq, c2, c3] at hf
  obtain ⟨f1, f2, f3, f4, f5⟩ := hf
  match vs, hl with
  | [x, y, z, u, v], _ =>
    simp only [List.drop_zero, List.take_succ_cons, List.take_zero, List.drop_succ_cons] at f1 f2 f3 f4 f5
    obtain ⟨n1, e1, _, _⟩ := reads_int Try.underlying3 f1
    obtain ⟨n2, e2, _, _⟩ := reads_int Try.underlying2 f2
    obtain ⟨n3, e3, _, _⟩ := reads_int Try.underlying2 f3
    obtain ⟨n4, e4, _, _⟩ := reads_int Try.underlying2 f4
    obtain ⟨n5, e5, _, _⟩ := reads_int Try.underlying2 f5
    simp only [List.cons.injEq, and_true] at e1 e2 e3 e4 e5
    subst e1; subst e2; subst e3; subst e4; subst e5
    exact ⟨⟨n1, n2, n3, n4, n5⟩, rfl, trivial⟩

section
variable {H0 : Heap} {ca : Option Addr} {cc : Nat} {calls : List CallD} {most agent epoch : Int}

theorem eqSelf (x : En) : (x.epoch == x.epoch && (x.boot == x.boot && (x.time == x.time && true))) = true := by simp
theorem eql37 (x y : En) : EqRun Try.prog .eql 37 (aggE x) (aggE y) (x.epoch == y.epoch && (x.boot == y.boot && (x.time == y.time && true))) :=
  (struct_eql (xs := encE x) (ys := encE y) (by kernel_rfl)).1

theorem RollCalls_true (hc : rdS H0 ca (flat encC calls)) (hq : ∀ x ∈ calls, True) :
    CallF Try.prog 3 #[I64 most, .slice ca calls.length cc, I64 agent, I64 epoch] H0 fun v H' => v = .bool true ∧ Grow H0 H' := by
  refine RollCalls.call ?_
  unfold RollCalls.code
  refine alive_spec (sat0 H0) fun H1 h => ⟨_, rfl, fun hc => by simp at hc, fun _ => ⟨fun _ => ⟨rfl, h.old_grow 0 rfl⟩, fun hlen => ?_⟩⟩
  have hlen : calls.length ≤ 100 := by have := of_decide_eq_false hlen; omega
  refine New_spec h (fun hm => ⟨_, _, rfl, ?_⟩) (fun hm rb mb H2 h => ⟨_, _, rfl, ?_⟩)
  · refine RNew_spec h (fun _ => ⟨_, _, rfl, fun hc => by simp at hc, fun _ => ⟨fun _ => ⟨rfl, h.old_grow 0 rfl⟩, fun hc => by simp at hc⟩⟩) (fun hm2 => absurd hm hm2)
  refine RNew_spec h (fun hm2 => absurd hm2 hm) fun _ sb H3 h => ⟨_, _, rfl, fun hc => by simp at hc, fun _ => ⟨fun hc => by simp at hc, fun _ => ?_⟩⟩
  refine ⟨fun i H' => ∃ (k : Nat) (rows : List En), i = k ∧ k ≤ calls.length ∧ RowsOk rows ∧ SatL H' [rollC rb mb most, mapE mb rows, refC sb most rows, old H0], fun i _ => calls.length - i.toNat,
    ⟨0, _, rfl, Nat.zero_le _, rowsOk_new, h.ordt [1, 2, 0, 3] 4 (by decide) (by decide)⟩, ?_⟩
  rintro i H4 ⟨k, rows, rfl, hk, ok, h⟩
  unfold RollCalls.l4
  refine ⟨fun hc1 => ?_, fun hc1 => ?_⟩
  · have hlt : k < calls.length := by have := of_decide_eq_true hc1; omega
    have hcr := h.old_rd 3 rfl hc
    have e3 : IntKind.i64.wrap ((k : Int) + 1) = ((k + 1 : Nat) : Int) := w64 (by omega) (by omega)
    refine ⟨⟨by omega, by omega⟩, _, _, hcr.some encC_len (by omega) hlt, _, _, _, _, _, hcr.els encC_len hlt, ?_⟩
    refine h.al fun b1 _ h => h.st 0 rfl rfl fun H5 h => ⟨_, h.rd 0 rfl _, ?_⟩
    intro Jn hJ
    have fin : ∀ (rows' : List En) H', RowsOk rows' → SatL H' [cellsA b1 (encC calls[k]) 32, rollC rb mb most, mapE mb rows', refC sb most rows', old H0] → Jn H' := by
      intro rows' H' ok' h'
      refine hJ _ ?_
      unfold RollCalls.r2
      intro Jn1 hJ1
      have last : ∀ (rows' : List En) H', RowsOk rows' → SatL H' [rollC rb mb most, mapE mb rows', refC sb most rows', old H0] → Jn1 false H' := by
        intro rows' H' ok' h'
        refine hJ1 _ _ ?_
        unfold RollCalls.r1
        refine ⟨fun hf => (by cases hf), fun _ => ?_⟩
        refine Agree_spec ok' h' fun H' h' => ⟨_, rfl, fun hf => (by cases hf), fun _ => ?_⟩
        rw [e3]
        exact ⟨⟨k + 1, rows', rfl, hlt, ok', h'⟩, by simp only [Int.toNat_natCast]; omega⟩
      refine ⟨_, h'.rd 0 rfl _, _, fun _ => h'.rd 0 rfl _, _, fun _ => h'.rd 0 rfl _, _, fun _ => h'.rd 0 rfl _, _, fun _ => h'.rd 0 rfl _, _, fun _ => h'.rd 0 rfl _, _, fun _ => h'.rd 0 rfl _, _, fun _ => h'.rd 0 rfl _, _, fun _ => h'.rd 0 rfl _, fun _ => ?_, fun hn => ?_⟩
      · refine Set_spec (x := ⟨_, _, _⟩) ok' (h'.ordt [1, 2, 0] 3 (by decide) (by decide)) fun H6 h => ⟨_, rfl, ?_⟩
        refine ⟨fun _ => h.rd 2 rfl _, fun _ => h.rd 2 rfl _, fun _ => h.rd 2 rfl _, fun _ => h.rd 2 rfl _, ?_⟩
        refine RSet_spec (x := ⟨_, _, _⟩) ok' (h.ordt [3, 0, 1, 2] 4 (by decide) (by decide)) fun H6 h => ⟨_, rfl, ?_⟩
        have := last _ H6 (setR_ok ok' _ _) (h.ordt [1, 2, 0, 4] 5 (by decide) (by decide))
        simpa using this
      · exact ⟨fun hp => absurd hp hn, fun hp => absurd hp hn, fun hp => absurd hp hn, fun hp => absurd hp hn, last _ _ ok' h'.tl⟩
    refine ⟨fun _ => ?_, fun _ => fin _ _ ok h⟩
    repeat (first
      | refine h.al fun _ _ h => ?_
      | refine nn_some ?_
      | refine ⟨fun _ => trivial, ?_⟩
      | refine ⟨_, h.rd 0 rfl _, ?_⟩
      | refine h.st 0 rfl rfl fun _ h => ?_
      | refine ⟨_, fun _ => h.rd 0 rfl _, ?_⟩)
    refine Grant_spec ok (h.ordt [1, 2, 0] 3 (by decide) (by decide)) fun H6 h => ⟨_, _, _, _, _, rfl, ?_⟩
    refine h.al fun b2 _ h => h.st 0 rfl rfl fun H5 h => ?_
    repeat (first
      | refine h.al fun _ _ h => ?_
      | refine nn_some ?_
      | refine ⟨fun _ => trivial, ?_⟩
      | refine ⟨_, h.rd 0 rfl _, ?_⟩
      | refine ⟨_, h.rd 1 rfl _, ?_⟩
      | refine ⟨_, h.rd 2 rfl _, ?_⟩
      | refine ⟨_, h.rd 3 rfl _, ?_⟩
      | refine h.st 0 rfl rfl fun _ h => ?_
      | refine h.st 1 rfl rfl fun _ h => ?_
      | refine h.st 2 rfl rfl fun _ h => ?_
      | refine h.st 3 rfl rfl fun _ h => ?_
      | refine ⟨_, fun _ => h.rd 0 rfl _, ?_⟩
      | refine ⟨_, fun _ => h.rd 1 rfl _, ?_⟩
      | refine ⟨_, fun _ => h.rd 2 rfl _, ?_⟩
      | refine ⟨_, fun _ => h.rd 3 rfl _, ?_⟩)
    refine RGrant_spec ok (h.ordt [4, 0, 1, 2, 3] 5 (by decide) (by decide)) fun H6 h => ⟨_, _, _, _, _, rfl, ?_⟩
    refine h.al fun b3 _ h => h.st 0 rfl rfl fun H5 h => ?_
    refine ⟨_, _, _, h.rds 2 rfl rfl, _, _, _, h.rds 0 rfl rfl, ?_⟩
    refine of_spec (e := (grant most rows calls[k].agent calls[k].boot calls[k].now).2.1) h fun H7 h => ⟨_, _, _, rfl, h.rds 0 rfl rfl, _, neq37 _ (grant most rows calls[k].agent calls[k].boot calls[k].now).2.1, fun hc2 => ?_, fun _ => ?_⟩
    · simp at hc2
    · exact fin _ _ (grant_ok ok _ _ _) (h.ordt [5, 3, 4, 1, 6] 7 (by decide) (by decide))
  · refine Of_spec ok h fun H5 h => ⟨_, _, _, _, rfl, ?_⟩
    refine h.al fun b4 _ h => h.st 0 rfl rfl fun H5 h => ?_
    refine ROf_spec ok (h.ordt [3, 0, 1, 2] 4 (by decide) (by decide)) fun H5 h => ⟨_, _, _, rfl, ?_⟩
    refine h.al fun b5 _ h => h.st 0 rfl rfl fun H5 h => ?_
    intro Jn hJ
    refine ⟨_, _, _, h.rds 2 rfl rfl, _, _, _, h.rds 0 rfl rfl, ?_⟩
    refine of_spec (e := rowE rows agent) h fun H7 h => ⟨_, _, _, rfl, h.rds 0 rfl rfl, _, eql37 _ (rowE rows agent), _, fun _ => h.rd 0 rfl _, fun _ => ?_, fun hn => absurd (by simp) hn⟩
    refine Is_spec ok (h.ordt [3, 4, 0, 1, 2] 5 (by decide) (by decide)) fun H8 h => ⟨_, rfl, _, fun _ => h.rd 2 rfl _, hJ _ _ ⟨congrArg Value.bool (by simp), h.old_grow 5 rfl⟩⟩
end
end Go.Proofs.Ytgkfpgocbciilaa
