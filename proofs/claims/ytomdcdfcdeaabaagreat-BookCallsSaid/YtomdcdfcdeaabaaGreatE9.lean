/-
  The engine, part 9: functions.
-/
import Derived.Test.YtomdcdfcdeaabaaGreatE8
namespace Go.Nm
open Go

def frame0 (args : List Value) (n : Nat) : Fr := args.map .p ++ List.replicate (n - args.length) .x

def resV (X : Ctx) (fr : Fr) (H : Heap) : List ResultVar → (List Value → Prop) → Prop
  | [], k => k []
  | .tmp t :: r, k => (match getP fr t with | some v => resV X fr H r fun vs => k (v :: vs) | none => False)
  | .cell a t :: r, k => (match getP fr a with
    | some (.pointer (some ⟨b, off, none⟩)) => (match aggT X.P t with
      | true => exAggT X.P t fun us => (if us.length = X.P.cellsOf t then cellsAre H b off us ∧ resV X fr H r fun vs => k (.agg ⟨us⟩ :: vs) else False)
      | false => exT X.P t fun u => cellAt H b off = some u ∧ resV X fr H r fun vs => k (u :: vs))
    | _ => False)
def resOf : List Value → Value
  | [v] => v
  | vs => .tuple ⟨vs⟩

/-- At a function's return the blocks of its loops over functions are shut. -/
def markQ : List Nat → Heap → (Heap → Prop) → Prop
  | [], H, k => k H
  | D :: r, H, k => H[D]? = some (.deferred (some [])) ∧ markQ r (H.setIfInBounds D (.deferred none)) k

def finQ (X : Ctx) (rs : List ResultVar) (K : Value → Heap → Prop) : Exit → Fr → List Nat → Heap → Prop
  | .normal, fr, M, H => markQ M H fun H' => resV X fr H' rs fun vs => K (resOf vs) H'
  | .ret, fr, M, H => markQ M H fun H' => resV X fr H' rs fun vs => K (resOf vs) H'
  | _, _, _, _ => False

/-- The condition of a whole function. -/
def vcFun (X : Ctx) (fn : Func) (an : Ann) (args : List Value) (H : Heap) (K : Value → Heap → Prop) : Prop :=
  match fn.body with
  | some c => vcCode X none c an (finQ X fn.results.toList K) (frame0 args fn.ntmps) H
  | none => False

section
variable {X : Ctx}

def rvOf (a : Act) : ResultVar → Sem Value
  | .tmp t => pure (a.tmps.getD t undef)
  | .cell c t => do loadVar t (← asAddr (a.tmps.getD c undef))

theorem getP_lget {fr : Fr} {t : Nat} {v : Value} (hg : getP fr t = some v) : lget fr t = some (.p v) := by
  unfold getP at hg
  split at hg
  · rename_i w hw; cases hg; exact hw
  · cases hg

theorem rv_cons {a : Act} {x : ResultVar} {r : List ResultVar} {v : Value} {vs : List Value} {w : World} (h1 : (rvOf a x).run X.P w = .ok v w) (h2 : (r.mapM (rvOf a)).run X.P w = .ok vs w) :
    ((x :: r).mapM (rvOf a)).run X.P w = .ok (v :: vs) w := by
  simp only [List.mapM_cons, Sem.run_bind, h1, h2, Result.andThen_ok, Sem.run_pure]

theorem resV_sound {fr : Fr} {a : Act} {w : World} (R : Rel fr a) : ∀ (rs : List ResultVar) (k : List Value → Prop), resV X fr w.heap rs k →
    ∃ vs, k vs ∧ (rs.mapM (rvOf a)).run X.P w = .ok vs w
  | [], k, h => ⟨[], h, by simp⟩
  | .tmp t :: r, k, h => by
    simp only [resV] at h
    cases hg : getP fr t with
    | none => simp [hg] at h
    | some v =>
      simp only [hg] at h
      obtain ⟨vs, h1, h2⟩ := resV_sound R r _ h
      have ht := R.pv _ _ (getP_lget hg)
      exact ⟨_, h1, rv_cons (by simp [rvOf, ht]) h2⟩
  | .cell c t :: r, k, h => by
    simp only [resV] at h
    cases hg : getP fr c with
    | none => simp [hg] at h
    | some v =>
      have ht := R.pv _ _ (getP_lget hg)
      simp only [hg] at h
      split at h
      · rename_i b off hv
        cases hv
        have ha : (asAddr (a.tmps.getD c undef)).run X.P w = .ok ⟨b, off, none⟩ w := by
          rw [Array.getD_eq_getD_getElem?, ht]; rfl
        split at h
        · rename_i hag
          unfold exAggT at h
          split at h
          · rename_i ls _
            obtain ⟨us, h⟩ := exLs_ex (ls := ls) h
            split at h
            · rename_i hlen
              obtain ⟨vs, h1, h2⟩ := resV_sound R r _ h.2
              have hl := run_loadAt_agg (P := X.P) hag hlen h.1
              simp only [Instr.loadAt, Instr.sureAddr, Sem.run_bind, Sem.run_pure, Result.andThen_ok] at hl
              exact ⟨_, h1, rv_cons (by simp only [rvOf, Sem.run_bind, ha, Result.andThen_ok, hl]) h2⟩
            · exact h.elim
          · exact h.elim
        · rename_i hag
          have hu := exT_underlying h
          obtain ⟨u, h3, h4⟩ := exT_ex h
          obtain ⟨vs, h1, h2⟩ := resV_sound R r _ h4
          have hl := run_loadAt_one (P := X.P) hu hag h3
          simp only [Instr.loadAt, Instr.sureAddr, Sem.run_bind, Sem.run_pure, Result.andThen_ok] at hl
          exact ⟨_, h1, rv_cons (by simp only [rvOf, Sem.run_bind, ha, Result.andThen_ok, hl]) h2⟩
      · exact h.elim

theorem results_run {fr : Fr} {a : Act} {w : World} (R : Rel fr a) (fn : Func) (k : Value → Prop) (h : resV X fr w.heap fn.results.toList fun vs => k (resOf vs)) :
    ∃ v, k v ∧ (results fn a.tmps).run X.P w = .ok v w := by
  obtain ⟨vs, h1, h2⟩ := resV_sound R _ _ h
  refine ⟨_, h1, ?_⟩
  have e : results fn a.tmps = (do let l ← fn.results.mapM (rvOf a); pure (if h : l.size = 1 then l[0] else .tuple l)) := by
    rfl
  rw [e, Array.mapM_eq_mapM_toList]
  simp only [Sem.run_bind, Sem.run_map, h2, Result.andThen_ok, Sem.run_pure]
  congr 1
  match vs with
  | [] => rfl
  | [v] => rfl
  | v :: u :: r => rfl

theorem frame0_rel (args : List Value) (n : Nat) : Rel (frame0 args n) { tmps := (⟨args⟩ : Array Value) ++ Array.replicate (n - (⟨args⟩ : Array Value).size) undef, defers := [] } := by
  refine ⟨by simp [frame0], fun t v h => ?_, fun t j w v h => ?_⟩
  · unfold frame0 at h
    rw [lget_eq] at h
    rcases Nat.lt_or_ge t args.length with ht | ht
    · rw [List.getElem?_append_left (by simpa using ht)] at h
      simp [ht] at h
      subst h
      simp [Array.getElem?_append, ht]
    · rw [List.getElem?_append_right (by simpa using ht)] at h
      rw [List.getElem?_replicate] at h
      split at h <;> cases h
  · unfold frame0 at h
    rw [lget_eq] at h
    rcases Nat.lt_or_ge t args.length with ht | ht
    · rw [List.getElem?_append_left (by simpa using ht)] at h
      simp [ht] at h
    · rw [List.getElem?_append_right (by simpa using ht)] at h
      rw [List.getElem?_replicate] at h
      split at h <;> cases h

theorem leaves_of_mark {P : Program} {fn : Func} {tmps : Array Value} {R : Ending → World → Prop} {w0 : World} {k : Heap → Prop} : ∀ (M : List Nat) (w : World), Rest w0 w → markQ M w.heap k →
    (∀ w', Rest w0 w' → k w'.heap → ∃ v, (results fn tmps).run P w' = .ok v w' ∧ R (.returned v) w') → LeavesInM Fence.wide 0 P fn tmps R (marks M) .returning w
  | [], w, hr, h, hk => hk w hr h
  | D :: r, w, hr, h, hk => by
    obtain ⟨h1, h2⟩ := h
    refine ⟨by simp, .inl ⟨D, _, rfl, run_takeDeferred h1, ?_⟩⟩
    exact leaves_of_mark r (w.putObj D (.deferred none)) (hr.trans ⟨rfl, rfl, rfl⟩) h2 hk

/-- **A call.** -/
theorem callF_of_vc (hm : X.P.follows .mixedOrders = true) (hX : ∀ f, memN f X.calls = true → Bodied X.P f) {f : FuncId} {fn : Func} (hf : X.P.funcs[f]? = some fn) (an : Ann) {args : List Value} {H : Heap} {K : Value → Heap → Prop}
    (h : vcFun X fn an args H K) : CallF X.P f ⟨args⟩ H K := by
  intro w hw
  unfold vcFun at h
  cases hb : fn.body with
  | none => simp [hb] at h
  | some c =>
    simp only [hb] at h
    subst hw
    refine callsIn_wide.1 (callsIn_of_wp_marks (F := Fence.wide) (n := 0) hf hb trivial (wpIn_mono (code_sound hm hX c w none an _ _ _ w (frame0_rel args fn.ntmps) (Rest.refl w) h) (fun e a' w' hq => ?_)))
    obtain ⟨h1, M, h2, h3⟩ := hq
    have hd : a'.defers = marks M := by rw [h2.defers]; simp
    have fin : ∀ fr', Rel fr' a' → (markQ M w'.heap fun H' => resV X fr' H' fn.results.toList fun vs => K (resOf vs) H') → LeavesInM Fence.wide 0 X.P fn a'.tmps (Fin w K) a'.defers .returning w' := by
      intro fr' h4 h5
      rw [hd]
      exact leaves_of_mark M w' h1 h5 fun w2 hr2 h6 => by
        obtain ⟨v, h7, h8⟩ := results_run (w := w2) h4 fn (fun v => K v w2.heap) h6
        exact ⟨v, h8, hr2, h7⟩
    cases e with
    | normal => obtain ⟨fr', h4, h5⟩ := h3; exact fin fr' h4 h5
    | ret => obtain ⟨fr', h4, h5⟩ := h3; exact fin fr' h4 h5
    | exit i => obtain ⟨fr', h4, h5⟩ := h3; exact h5.elim
    | _ => exact h3.elim

/-- .. by the printed condition. -/
theorem callF_of_eq {P : Program} (hP : X.P = P) (hm : X.P.follows .mixedOrders = true) (hX : ∀ f, memN f X.calls = true → Bodied X.P f) {f : FuncId} {fn : Func} (hf : P.funcs[f]? = some fn) {an : Ann} {args : List Value} {H : Heap} {K : Value → Heap → Prop} {C : Prop}
    (he : vcFun X fn an args H K = C) (h : C) : CallF P f args.toArray H K := by
  subst hP
  exact callF_of_vc hm hX hf an (he ▸ h)

/-- Functions that have a body: by a look at each. -/
def bodiedB (P : Program) (f : FuncId) : Bool := match P.funcs[f]? with | some fn => !fn.body.isNone && !(fn.name == "runtime.NumGoroutine") | none => false
theorem bodied_of {P : Program} {f : FuncId} (h : bodiedB P f = true) : Bodied P f := by
  unfold bodiedB at h
  split at h
  · rename_i fn hf
    simp only [Bool.and_eq_true, Bool.not_eq_true'] at h
    exact ⟨fn, hf, h.1, h.2⟩
  · cases h
theorem memN_all {l : List Nat} {p : Nat → Bool} (h : l.all p = true) : ∀ f, memN f l = true → p f = true := by
  induction l with
  | nil => intro f hf; cases hf
  | cons m r ih =>
    intro f hf
    simp only [List.all_cons, Bool.and_eq_true] at h
    simp only [memN, Bool.or_eq_true] at hf
    rcases hf with hf | hf
    · rw [Nat.eq_of_beq_eq_true hf]; exact h.1
    · exact ih h.2 f hf
theorem bodied_all {P : Program} {l : List Nat} (h : l.all (bodiedB P) = true) : ∀ f, memN f l = true → Bodied P f := fun f hf => bodied_of (memN_all h f hf)

theorem CallF.mono {P : Program} {f : FuncId} {args : Array Value} {H : Heap} {K K' : Value → Heap → Prop} (h : CallF P f args H K) (hk : ∀ v H', K v H' → K' v H') : CallF P f args H K' :=
  fun w hw => (h w hw).mono fun e w' he => by
    cases e <;> simp only [Fin] at he ⊢
    exact ⟨he.1, hk _ _ he.2⟩
end
end Go.Nm
