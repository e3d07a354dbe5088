/-
  Maps whose keys are pairs of numbers.
-/
import Derived.Test.YtgkfpgocbciilaaST
set_option linter.unusedVariables false
set_option linter.unusedSimpArgs false
namespace Go.Nm
open Go

def pairV (kd : IntKind) (p : Int × Int) : Value := .agg #[.int kd p.1, .int kd p.2]
section
variable {P : Program} {k e : TypeId} {kd : IntKind}
theorem pair_equal (hk : P.underlying k = some (.array 2 e)) (he : P.underlying e = some (.int kd)) (hc : P.cellsOf e = 1) (x y : Int × Int) (w : World) :
    (Op.equal k (pairV kd x) (pairV kd y)).run P w = .ok (decide (x = y)) w := by
  obtain ⟨i, hi⟩ := Go.info_of_underlying he
  show (Op.equalIn (9998 + 1 + 1) k _ _).run P w = _
  generalize 9998 = n
  rw [pairV, pairV, run_equalIn_array w (n + 1) _ _ hk hi, hc]
  have hp : ∀ (xs : Array Value) (o : Nat) (v : Int), xs[o]? = some (.int kd v) → ∀ w, (part e xs o).run P w = .ok (.int kd v) w := by
    intro xs o v hx w
    simp [part, isAgg, run_underlying he, hx]
  have h0 : ∀ z : Int × Int, (#[Value.int kd z.1, Value.int kd z.2])[0 * 1]? = some (.int kd z.1) := fun z => rfl
  have h1 : ∀ z : Int × Int, (#[Value.int kd z.1, Value.int kd z.2])[1 * 1]? = some (.int kd z.2) := fun z => rfl
  have hq : ∀ a b : Int, ∀ w, (Op.equalIn (n + 1) e (.int kd a) (.int kd b)).run P w = .ok (a == b) w := fun a b w => run_equalIn_int w n e kd kd a b he
  show (Op.eqItems (n + 1) e 1 _ _ [0, 1]).run P w = _
  have p0 := hp _ _ _ (h0 x)
  have p1 := hp _ _ _ (h0 y)
  have p2 := hp _ _ _ (h1 x)
  have p3 := hp _ _ _ (h1 y)
  have q1 : x.1 = y.1 ∧ x.2 = y.2 ↔ x = y := ⟨fun h => Prod.ext h.1 h.2, fun h => by rw [h]; exact ⟨rfl, rfl⟩⟩
  by_cases e1 : x.1 = y.1
  · have b1 : (x.1 == y.1) = true := by simpa using e1
    by_cases e2 : x.2 = y.2
    · have b2 : (x.2 == y.2) = true := by simpa using e2
      rw [decide_eq_true (q1.1 ⟨e1, e2⟩)]
      simp only [Op.eqItems, Sem.run_bind, p0, p1, p2, p3, Result.andThen_ok, hq, b1, b2, Bool.not_true, Bool.false_eq_true, if_false, Sem.run_pure]
    · have b2 : (x.2 == y.2) = false := by simpa using e2
      rw [decide_eq_false (fun h => e2 (q1.2 h).2)]
      simp only [Op.eqItems, Sem.run_bind, p0, p1, p2, p3, Result.andThen_ok, hq, b1, b2, Bool.not_true, Bool.not_false, Bool.false_eq_true, if_false, if_true, Sem.run_pure]
  · have b1 : (x.1 == y.1) = false := by simpa using e1
    rw [decide_eq_false (fun h => e1 (q1.2 h).1)]
    simp only [Op.eqItems, Sem.run_bind, p0, p1, p2, p3, Result.andThen_ok, hq, b1, Bool.not_false, if_true, Sem.run_pure]
theorem pair_asking (hk : P.underlying k = some (.array 2 e)) (he : P.underlying e = some (.int kd)) (hc : P.cellsOf e = 1) (x : Int × Int) (w : World) : ∀ (es : List MapEntry) (ks : List (Int × Int)) (i : Nat), es.map (·.key) = ks.map (pairV kd) →
    (x ∉ ks → (Instr.findAsking k (pairV kd x) es i).run P w = .ok none w) ∧ ∀ j en, ks[j]? = some x → (∀ l, l < j → ks[l]? ≠ some x) → es[j]? = some en → (Instr.findAsking k (pairV kd x) es i).run P w = .ok (some (i + j, en.val)) w
  | [], [], i, _ => ⟨fun _ => by simp [Instr.findAsking], fun j e h => by simp at h⟩
  | [], _ :: _, i, h => by simp at h
  | _ :: _, [], i, h => by simp at h
  | e0 :: es, y :: ks, i, h => by
    simp only [List.map_cons, List.cons.injEq] at h
    obtain ⟨ih1, ih2⟩ := pair_asking hk he hc x w es ks (i + 1) h.2
    have hq := pair_equal hk he hc x y w
    rw [← h.1] at hq
    by_cases e : x = y
    · subst e
      refine ⟨fun hx => absurd (by simp) hx, fun j e1 hj hl he => ?_⟩
      have : j = 0 := by
        cases j with
        | zero => rfl
        | succ j => exact absurd rfl (hl 0 (by omega))
      subst this
      simp at he; subst he
      simp [Instr.findAsking, Sem.run_bind, hq]
    · refine ⟨fun hx => ?_, fun j e1 hj hl he => ?_⟩
      · simp only [List.mem_cons, not_or] at hx
        simp [Instr.findAsking, Sem.run_bind, hq, e, ih1 hx.2]
      · cases j with
        | zero => simp at hj; exact absurd hj.symm e
        | succ j =>
          have := ih2 j e1 (by simpa using hj) (fun l hl' => by simpa using hl (l + 1) (by omega)) (by simpa using he)
          simp only [Instr.findAsking, Sem.run_bind, hq, e, decide_false, Result.andThen_ok, Bool.false_eq_true, if_false, this]
          rw [show i + 1 + j = i + (j + 1) by omega]
theorem findNow_pair {d : TypeDesc} (x : Value) (hx : ∃ a, x = .agg a) : ∀ (es : List MapEntry) (i : Nat), es ≠ [] → Instr.findNow d x es i = none
  | [], _, h => absurd rfl h
  | e0 :: es, i, _ => by
    obtain ⟨a, rfl⟩ := hx
    have : Instr.sameNow d (.agg a) e0.key = none := by cases d <;> rfl
    simp [Instr.findNow, this]
theorem keyOK_pair (hk : P.underlying k = some (.array 2 e)) (he : P.underlying e = some (.int kd)) (hc : P.cellsOf e = 1) : KeyOK P k (pairV kd) where
  inj x y h := by
    unfold pairV at h
    simp at h
    exact Prod.ext h.1 h.2
  chk em x w := by
    obtain ⟨i, hi⟩ := Go.info_of_underlying he
    show (Instr.checkKey em (9998 + 1 + 1) k _).run P w = .ok () w
    generalize 9998 = n
    have hs : ∀ w, (sizeOf e).run P w = .ok 1 w := fun w => by rw [run_sizeOf w hi, hc]
    have hp0 : ∀ w, (part e #[Value.int kd x.1, Value.int kd x.2] 0).run P w = .ok (.int kd x.1) w := fun w => by simp [part, isAgg, run_underlying he]
    have hp1 : ∀ w, (part e #[Value.int kd x.1, Value.int kd x.2] 1).run P w = .ok (.int kd x.2) w := fun w => by simp [part, isAgg, run_underlying he]
    have hck : ∀ v w, (Instr.checkKey em (n + 1) e (.int kd v)).run P w = .ok () w := fun v w => by simp [Instr.checkKey, run_underlying he]
    rw [Instr.checkKey]
    simp only [pairV, Sem.run_bind, run_underlying hk, Result.andThen_ok]
    simp only [Std.Legacy.Range.forIn_eq_forIn_range', Std.Legacy.Range.size, Nat.sub_zero, Nat.add_one_sub_one, Nat.div_one]
    simp [List.range', List.forIn_cons, Sem.run_bind, hs, hp0, hp1, hck]
  non x ks es w hk2 hx := by
    simp only [Instr.findKey, Sem.run_bind, run_underlying hk, Result.andThen_ok]
    cases es with
    | nil => simp [Instr.findNow]
    | cons e0 r =>
      rw [findNow_pair (pairV kd x) ⟨_, rfl⟩ (e0 :: r) 0 (by simp)]
      exact (pair_asking hk he hc x w _ ks 0 hk2).1 hx
  fnd x ks es w i en hk2 h1 h2 h3 := by
    simp only [Instr.findKey, Sem.run_bind, run_underlying hk, Result.andThen_ok]
    cases es with
    | nil => simp at h3
    | cons e0 r =>
      rw [findNow_pair (pairV kd x) ⟨_, rfl⟩ (e0 :: r) 0 (by simp)]
      have := (pair_asking hk he hc x w _ ks 0 hk2).2 i en h1 h2 h3
      rw [Nat.zero_add] at this
      exact this
  stay x w := by
    have : Instr.sameBits 10000 (pairV kd x) (pairV kd x) = true := by
      show Instr.sameBits (9999 + 1) _ _ = true
      generalize 9999 = n
      unfold pairV Instr.sameBits; simp [Instr.sameBits]
    simp [Instr.keyThatStays, this]
end
end Go.Nm
