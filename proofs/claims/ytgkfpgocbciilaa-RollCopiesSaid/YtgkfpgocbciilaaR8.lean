/-
  RollRises.
-/
import Derived.Test.YtgkfpgocbciilaaR7
import Derived.Test.YtgkfpgocbciilaaRS
import Derived.Test.YtgkfpgocbciilaaKA
set_option linter.unusedVariables false
set_option linter.unusedSimpArgs false
namespace Go.Proofs.Ytgkfpgocbciilaa
open Go Go.Nm Go.Proofs

theorem mt49 : MapT Try.prog 49 50 2 I64 0 := mapT_of Try.underlying49 (by kernel_rfl)
theorem ko50 : KeyOK Try.prog 50 (pairV .i64) := keyOK_pair Try.underlying50 Try.underlying2 (by kernel_rfl)
abbrev mapP (b : Nat) (m : PM) : Assn := mapA (pairV .i64) I64 b m

section
variable {H0 : Heap} {ca : Option Addr} {cc : Nat} {calls : List CallD} {most agent epoch : Int}

theorem RollRises_true (hc : rdS H0 ca (flat encC calls)) (hq : ∀ x ∈ calls, True) :
    CallF Try.prog 4 #[I64 most, .slice ca calls.length cc] H0 fun v H' => v = .bool true ∧ Grow H0 H' := by
  refine RollRises.call ?_
  unfold RollRises.code
  refine alive_spec (sat0 H0) fun H1 h => ⟨_, rfl, fun hc => by simp at hc, fun _ => ⟨fun _ => ⟨rfl, h.old_grow 0 rfl⟩, fun hlen => ?_⟩⟩
  have hlen : calls.length ≤ 100 := by have := of_decide_eq_false hlen; omega
  refine New_spec h (fun hm => ⟨_, _, rfl, fun _ => ⟨rfl, h.old_grow 0 rfl⟩, fun hc => by simp at hc⟩) (fun hm rb mb H2 h => ⟨_, _, rfl, fun hc => by simp at hc, fun _ => ?_⟩)
  refine h.alm (pairV .i64) I64 fun b _ h => ?_
  refine h.alm (pairV .i64) I64 fun b1 _ h => ?_
  refine ⟨fun _ i H' => ∃ (k : Nat) (rows : List En) (bs es : PM), i = k ∧ k ≤ calls.length ∧ RowsOk rows ∧ RollIn most rows ∧ InvB rows bs ∧ InvE rows es ∧ SatL H' [rollC rb mb most, mapE mb rows, mapP b bs, mapP b1 es, old H0], fun _ i _ => calls.length - i.toNat,
    ⟨0, _, [], [], rfl, Nat.zero_le _, rowsOk_new, rowsIn_new (by omega), fun p hp => (by cases hp), fun p hp => (by cases hp), h.ordt [2, 3, 1, 0] 4 (by decide) (by decide)⟩, ?_⟩
  rintro t4 i H4 ⟨k, rows, bs, es, rfl, hk, ok, hin, hB, hE, h⟩
  unfold RollRises.l3
  refine ⟨fun hc1 => ?_, fun hc1 => ?_⟩
  · have hlt : k < calls.length := by have := of_decide_eq_true hc1; omega
    have hcr := h.old_rd 4 rfl hc
    have e3 : IntKind.i64.wrap ((k : Int) + 1) = ((k + 1 : Nat) : Int) := w64 (by omega) (by omega)
    intro Jn hJ
    have fin : ∀ (rows' : List En) (bs' es' : PM) H', RowsOk rows' → RollIn most rows' → InvB rows' bs' → InvE rows' es' → SatL H' [rollC rb mb most, mapE mb rows', mapP b bs', mapP b1 es', old H0] → Jn t4 H' := by
      intro rows' bs' es' H' ok' hin' hB' hE' h'
      refine hJ _ _ ?_
      unfold RollRises.r1
      rw [e3]
      exact ⟨⟨k + 1, rows', bs', es', rfl, hlt, ok', hin', hB', hE', h'⟩, by simp only [Int.toNat_natCast]; omega⟩
    refine ⟨⟨by omega, by omega⟩, _, _, hcr.some encC_len (by omega) hlt, _, _, _, _, _, hcr.els encC_len hlt, ?_⟩
    refine h.al fun b3 _ h => h.st 0 rfl rfl fun H5 h => ⟨_, h.rd 0 rfl _, fun _ => fin _ _ _ _ ok hin hB hE h.tl, fun _ => ?_⟩
    refine ⟨_, h.rd 0 rfl _, Of_spec ok (h.ordt [1, 2, 0] 3 (by decide) (by decide)) fun H6 h => ⟨_, _, _, _, rfl, ?_⟩⟩
    refine h.al fun b4 _ h => h.st 0 rfl rfl fun H5 h => ?_
    repeat (first
      | refine h.al fun _ _ h => ?_
      | refine nn_some ?_
      | refine ⟨fun _ => trivial, ?_⟩
      | refine ⟨_, h.rd 0 rfl _, ?_⟩
      | refine ⟨_, h.rd 1 rfl _, ?_⟩
      | refine ⟨_, h.rd 2 rfl _, ?_⟩
      | refine ⟨_, h.rd 3 rfl _, ?_⟩
      | refine h.st 0 rfl rfl fun _ h => ?_
      | refine h.st 1 rfl rfl fun _ h => ?_
      | refine h.st 2 rfl rfl fun _ h => ?_
      | refine h.st 3 rfl rfl fun _ h => ?_
      | refine ⟨_, fun _ => h.rd 0 rfl _, ?_⟩
      | refine ⟨_, fun _ => h.rd 1 rfl _, ?_⟩
      | refine ⟨_, fun _ => h.rd 2 rfl _, ?_⟩
      | refine ⟨_, fun _ => h.rd 3 rfl _, ?_⟩)
    obtain ⟨rows', x, fr, er, e⟩ : ∃ rows' x fr er, grant most rows calls[k].agent calls[k].boot calls[k].now = (rows', x, fr, er) := ⟨_, _, _, _, rfl⟩
    refine Grant_spec' e ok (h.ordt [1, 2, 0] 3 (by decide) (by decide)) fun H6 ok' h => ⟨_, _, _, _, _, rfl, ?_⟩
    refine h.al fun b5 _ h => h.st 0 rfl rfl fun H5 h => ?_
    refine ⟨_, h.rd 4 rfl _, Of_spec ok' (h.ordt [1, 2, 0] 3 (by decide) (by decide)) fun H6 h => ⟨_, _, _, _, rfl, ?_⟩⟩
    refine h.al fun b6 _ h => h.st 0 rfl rfl fun H5 h => ?_
    have hin' := grant_in ok hin calls[k].agent calls[k].boot calls[k].now
    rw [e] at hin'
    refine ⟨fun her => ?_, fun her => ?_⟩
    · have hne : er ≠ 0 := by simpa using her
      obtain ⟨rfl, rfl⟩ := grant_not ok e hne
      refine ⟨_, _, _, fun _ => h.rds 0 rfl rfl, _, _, _, fun _ => h.rds 4 rfl rfl, _, fun _ => neq34 (rowE rows' calls[k].agent) (rowE rows' calls[k].agent), fun hc2 => by simp at hc2, fun _ => ?_⟩
      exact fin _ _ _ _ ok hin hB hE (h.ordt [1, 2, 6, 7, 8] 9 (by decide) (by decide))
    · have he0 : er = 0 := by simpa using her
      subst he0
      obtain ⟨r1, r2, r3, r4, r5, r6, r7, r8, r9⟩ := grant_rise ok hin e hB hE
      rw [r1]
      refine ⟨_, _, _, fun _ => h.rds 0 rfl rfl, _, _, _, fun _ => h.rds 3 rfl rfl, _, fun _ => neq34 (rowE rows' calls[k].agent) x, _, fun _ => h.rd 3 rfl _, _, fun _ => h.rd 4 rfl _, _, fun _ => h.rd 3 rfl _, _, fun _ => h.rd 4 rfl _,
        _, fun _ => h.rd 3 rfl _, _, fun _ => h.rd 4 rfl _, _, fun _ => h.rd 3 rfl _, _, fun _ => h.rd 5 rfl _, ?_⟩
      rw [r1]
      refine ⟨fun hc2 => ?_, fun _ => ?_⟩
      · simp [r2, r3, r5] at hc2
        have := r4 hc2.1
        omega
      refine ⟨_, h.rd 5 rfl _, _, h.rd 3 rfl _, _, h.mp_get1 mt49 ko50 6 rfl (x := (calls[k].agent, x.boot)), _, h.rd 5 rfl _, _, h.rd 3 rfl _, _, h.mp_get1 mt49 ko50 7 rfl (x := (calls[k].agent, x.epoch)), _, fun _ => h.rd 3 rfl _, _, fun _ => h.rd 3 rfl _, fun hc2 => ?_, fun _ => ?_⟩
      · have m1 : (mlook (calls[k].agent, x.boot) bs).getD 0 = 0 ∨ (mlook (calls[k].agent, x.boot) bs).getD 0 = x.epoch := by
          cases hm : mlook (calls[k].agent, x.boot) bs with
          | none => exact .inl rfl
          | some v => exact .inr (r6 v hm)
        have m2 : (mlook (calls[k].agent, x.epoch) es).getD 0 = 0 ∨ (mlook (calls[k].agent, x.epoch) es).getD 0 = x.boot := by
          cases hm : mlook (calls[k].agent, x.epoch) es with
          | none => exact .inl rfl
          | some v => exact .inr (r7 v hm)
        simp at hc2
        omega
      refine ⟨_, h.rd 5 rfl _, _, h.rd 3 rfl _, _, h.rd 3 rfl _, h.mp_update mt49 ko50 6 rfl (x := (calls[k].agent, x.boot)) (v := x.epoch) fun _ h => ?_⟩
      refine ⟨_, h.rd 5 rfl _, _, h.rd 3 rfl _, _, h.rd 3 rfl _, h.mp_update mt49 ko50 7 rfl (x := (calls[k].agent, x.epoch)) (v := x.boot) fun _ h => ?_⟩
      exact fin _ _ _ _ ok' hin' r8 r9 (h.ordt [1, 2, 6, 7, 8] 9 (by decide) (by decide))
  · refine h.al fun b7 _ h => h.st 0 rfl rfl fun _ h => ?_
    refine All_spec h fun c0 H21 h => ⟨_, _, rfl, rfl, fun R hR1 hR2 hy => ?_⟩
    have h := (h.rng R).ordt [0, 3, 2, 4, 5, 1] 6 (by decide) (by decide)
    have h0 := SatL.shut [pt (H21.size + 1) (.loop R), cellsA b7 [I64 0] 3] h
    have hle := tab_le ok
    refine All1_spec ok (fun j => star [pt (H21.size + 1) (.loop R), cellsA b7 [I64 j] 3]) (pur False) h0 (fun j hj G H1 K1 h1 kt _ => hy _ _ _ ?_) (fun H5 h5 => ?_) (fun H5 h5 => (SatL.consP h5).1.elim)
    · have h := h1.open
      unfold RollRises.y2
      refine ⟨_, _, _, _, rfl, h.getO 0 rfl, h.getO 0 rfl, h.stl 0 rfl fun _ h => ⟨_, h.rd 1 rfl _, ?_⟩⟩
      rw [w64 (x := (j : Int) + 1) (by omega) (by omega)]
      refine h.st 1 rfl rfl fun _ h => ⟨h.getO 0 rfl, kt _ ?_⟩
      have h := h.setO 0 rfl (.loop R)
      exact SatL.shut [_, _] h
    have h := h5.open
    refine ⟨.ready, none, by decide, by rw [loop_eta hR1 hR2]; exact h.getO 0 rfl, h.stl 0 rfl fun H26 h => ⟨rfl, _, h.rd 1 rfl _, h.getO 5 rfl, congrArg Value.bool (decide_eq_true hin.2), ?_⟩⟩
    exact (h.setO 5 rfl (.deferred none)).old_grow 8 rfl
end
end Go.Proofs.Ytgkfpgocbciilaa
