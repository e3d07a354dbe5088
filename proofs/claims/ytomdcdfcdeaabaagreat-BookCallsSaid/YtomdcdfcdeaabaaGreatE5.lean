/-
  The engine, part 5: a region that draws its order. One walk serves every order, if what was read early still holds where it might be read late.
-/
import Derived.Test.YtomdcdfcdeaabaaGreatE4
import Derived.OrdersIn
import Derived.TacticsIn
namespace Go.Nm
open Go

/-- An operation that came up early, and what it leans on ('none': nothing). -/
abbrev Pend := List (Nat × Option (Heap → Prop))
def factH (f : Option (Heap → Prop)) (H : Heap) : Prop := match f with | none => True | some p => p H

section
variable {P : Program} {ops : Array Oper}

def stepW (P : Program) (w0 : World) (ops : Array Oper) (i : Nat) (K : Act → Heap → Prop) (a : Act) (H : Heap) : Prop :=
  ∀ w, w.heap = H → Rest w0 w → match ops[i]? with
    | none => K a H
    | some o => if Region.wanted o (yielded ops a.tmps) then Good P w (fun v H' => K (a.put o.dst v) H') ((execOp a.eval o).run P w) else K (a.put o.dst undef) H

theorem stepW_mono {w0 : World} {i : Nat} {K K' : Act → Heap → Prop} {a : Act} {H : Heap} (hk : ∀ a H, K a H → K' a H) (h : stepW P w0 ops i K a H) : stepW P w0 ops i K' a H := by
  intro w hw hr
  have := h w hw hr
  cases ho : ops[i]? with
  | none => simp only [ho] at this ⊢; exact hk _ _ this
  | some o =>
    simp only [ho] at this ⊢
    split at this
    · rename_i hwn
      rw [if_pos hwn]; exact this.mono fun v H' => hk _ _
    · rename_i hwn
      rw [if_neg hwn]; exact hk _ _ this

/-- What pends when operation i has been carried out: a writing one strikes what it waits for. -/
def shrink (isW : Nat → Bool) (bf : Nat → Nat → Bool) (i : Nat) (pd : Pend) : Pend := if isW i then pd.filter (fun x => !bf i x.1) else pd

def wpAnyH (P : Program) (w0 : World) (ops : Array Oper) (isW : Nat → Bool) (bf : Nat → Nat → Bool) (Q : Act → Heap → Prop) : Nat → Pend → Array Bool → Act → Heap → Prop
  | 0, pd, listed, a, H => (∀ x ∈ pd, factH x.2 H) ∧ Region.ready .any ops listed = [] ∧ Q a H
  | n + 1, pd, listed, a, H => (∀ x ∈ pd, factH x.2 H) ∧ (Region.ready .any ops listed = [] → Q a H) ∧
    ∀ i ∈ Region.ready .any ops listed, stepW P w0 ops i (fun a' H' => wpAnyH P w0 ops isW bf Q n (shrink isW bf i pd) (listed.setIfInBounds i true) a' H') a H

/-- The fence that asks nothing, in a round or not. -/
def FR (ro : Option Nat) : Fence := { Fence.wide with round := ro }

theorem semAt_good {o : Oper} {a : Act} {w : World} {K : Value → Heap → Prop} {ro : Option Nat} (h : Good P w K ((execOp a.eval o).run P w)) : o.semAt ro a.eval = execOp a.eval o := by
  refine Oper.semAt_eq ro _ o fun c hc => ?_
  simp only [execOp, hc, Sem.run_bind] at h
  cases hr : (resolve a.eval c o.type).run P w with
  | ok d w' => simp [hr, Result.andThen, Good] at h
  | halt e w' => simp [hr, Result.andThen, Good] at h

theorem wp_of_good {o : Oper} {a : Act} {w w0 : World} {ro : Option Nat} (hr : Rest w0 w) {K : Value → Heap → Prop} {next : Act → World → Prop} {Q' : Exit → Act → World → Prop}
    (hk : ∀ v w', Rest w0 w' → K v w'.heap → next (a.put o.dst v) w') (h : Good P w K ((execOp a.eval o).run P w)) : o.wpIn (FR ro) 0 P a w next Q' := by
  refine ⟨fun f _ => trivial, ?_⟩
  have hs : o.semAt (FR ro).round a.eval = execOp a.eval o := semAt_good h
  rw [hs]
  generalize (execOp a.eval o).run P w = r at h
  cases r with
  | halt h' w' => exact h.elim
  | ok n w' =>
    cases n <;> simp only [Good] at h
    case value v => exact hk _ _ (hr.trans h.1) h.2
    case skip => exact hk _ _ (hr.trans h.1) h.2
    case enter f args =>
      obtain ⟨rfl, h⟩ := h
      rw [Oper.uponIn_enter]
      refine ⟨fun hd => (by cases hd), ?_⟩
      have h2 : CallsIn Fence.wide (0 - 1) P f args w' fun
          | .returned v, w'' => next (a.put o.dst v) w''
          | .panicked chain, w'' => Q' (.panic chain) a w''
          | .outgrown, _ => LetsOut Q' := callsIn_wide.2 (h.mono fun e w'' he => by
        cases e <;> simp only [Fin] at he ⊢
        exact hk _ _ (hr.trans he.1) he.2)
      exact h2
    case round l f tmps assign body =>
      obtain ⟨rfl, h⟩ := h
      rw [Oper.uponIn_round]
      refine ⟨fun hd => (by cases hd), ?_⟩
      have h2 : RoundIn Fence.wide (0 - 1) P l f tmps assign body w' fun
          | .returned v, w'' => next (a.put o.dst v) w''
          | .panicked chain, w'' => Q' (.panic chain) a w''
          | .outgrown, _ => LetsOut Q' := h.mono fun e w'' he => by
        cases e <;> simp only [Fin] at he ⊢
        exact hk _ _ (hr.trans he.1) he.2
      exact h2

theorem wpAny_of_H {w0 : World} {ro : Option Nat} {isW : Nat → Bool} {bf : Nat → Nat → Bool} {Q : Act → Heap → Prop} {Q' : Exit → Act → World → Prop} (hQ : ∀ a w, Rest w0 w → Q a w.heap → Q' .normal a w) :
    ∀ (n : Nat) (pd : Pend) (listed : Array Bool) (a : Act) (w : World), Rest w0 w → wpAnyH P w0 ops isW bf Q n pd listed a w.heap → wpAnyIn (FR ro) 0 P .any ops Q' n listed a w
  | 0, _, _, _, _, hr, h => ⟨h.2.1, hQ _ _ hr h.2.2⟩
  | n + 1, pd, listed, a, w, hr, h => ⟨fun h0 => hQ _ _ hr (h.2.1 h0), fun i hi => by
    have h1 := h.2.2 i hi w rfl hr
    unfold wpOpIn
    split at h1
    · rename_i ho; simp only [ho]; exact wpAny_of_H hQ n _ _ a w hr h1
    · rename_i o ho
      simp only [ho]
      split at h1
      · rename_i hw
        rw [if_pos hw]
        exact wp_of_good hr (fun v w' hr' hk => wpAny_of_H hQ n _ _ _ w' hr' hk) h1
      · rename_i hw
        rw [if_neg hw]
        exact ⟨fun f _ => trivial, wpAny_of_H hQ n _ _ _ w hr h1⟩⟩

/-- In state a the operation yields v, in every heap in which the fact holds, and leaves the heap. -/
def YieldH (P : Program) (ops : Array Oper) (o : Oper) (v : Value) (f : Option (Heap → Prop)) (a : Act) : Prop :=
  (Region.wanted o (yielded ops a.tmps) = true → ∀ w, factH f w.heap → Good P w (fun v' H' => v' = v ∧ H' = w.heap) ((execOp a.eval o).run P w)) ∧
  (Region.wanted o (yielded ops a.tmps) = false → v = undef)

theorem YieldH.of_same {o : Oper} {v : Value} {f : Option (Heap → Prop)} {a a' : Act} (hy : YieldH P ops o v f a) (he : execOp a'.eval o = execOp a.eval o)
    (hw : Region.wanted o (yielded ops a'.tmps) = Region.wanted o (yielded ops a.tmps)) : YieldH P ops o v f a' := by
  unfold YieldH at *
  rw [he, hw]
  exact hy

theorem YieldH.step {w0 : World} {i : Nat} {o : Oper} {v : Value} {f : Option (Heap → Prop)} {a : Act} {H : Heap} (hi : ops[i]? = some o) (hy : YieldH P ops o v f a) (hf : factH f H) {K : Act → Heap → Prop} (h : K (a.put o.dst v) H) :
    stepW P w0 ops i K a H := by
  intro w hw hr
  simp only [hi]
  split
  · rename_i hwn
    subst hw
    exact (hy.1 hwn w hf).mono fun v' H' ⟨h1, h2⟩ => by subst h1; subst h2; exact h
  · rename_i hwn
    rw [← hy.2 (by simpa using hwn)]; exact h

theorem stepW_put {w0 : World} {j : Nat} {oi oj : Oper} {v : Value} {f : Option (Heap → Prop)} (hj : ops[j]? = some oj) (hap : oi.apart ops oj = true)
    (hsi : ∀ cs b, oi.op ≠ .select cs b) (hsj : ∀ cs b, oj.op ≠ .select cs b) {K : Act → Heap → Prop} {a : Act} {H : Heap}
    (hy : YieldH P ops oi v f a) (h : stepW P w0 ops j K (a.put oi.dst v) H) :
    stepW P w0 ops j (fun a' H' => YieldH P ops oi v f a' ∧ K (a'.put oi.dst v) H') a H := by
  obtain ⟨h1, h2, h3⟩ := Oper.apart_spec hap
  have keep : ∀ (a : Act), YieldH P ops oi v f a → ∀ u, YieldH P ops oi v f (a.put oj.dst u) := fun a hy u =>
    hy.of_same (execOp_put oi hsi a oj.dst u h3) (wanted_put oi a oj.dst u h3)
  intro w hw hr
  have h' := h w hw hr
  simp only [hj] at h' ⊢
  rw [wanted_put oj a oi.dst v h1] at h'
  split
  · rename_i hwn
    rw [if_pos hwn, execOp_put oj hsj a oi.dst v h1] at h'
    exact h'.mono fun u H' hk => ⟨keep a hy u, by rw [← Act.put_comm a v u h2]; exact hk⟩
  · rename_i hwn
    rw [if_neg hwn] at h'
    exact ⟨keep a hy _, by rw [← Act.put_comm a v undef h2]; exact h'⟩

/-- All that a listed operation waits for is listed. -/
def Closed (ops : Array Oper) (listed : Array Bool) : Prop :=
  ∀ j oj, ops[j]? = some oj → listed.getD j false = true → ∀ e ∈ oj.after, Region.binds .any e = true → listed.getD e.on false = true

theorem Closed.set {listed : Array Bool} (h : Closed ops listed) {i : Nat} (hi : i ∈ Region.ready .any ops listed) : Closed ops (listed.setIfInBounds i true) := by
  obtain ⟨_, oi, hoi, hall⟩ := mem_ready.1 hi
  intro j oj hj hl e he hb
  by_cases hij : i = j
  · subst hij
    have : oj = oi := Option.some.inj (hj.symm.trans hoi)
    subst this
    exact getD_set_true (hall e he hb)
  · rw [getD_set_ne false hij] at hl
    exact getD_set_true (h j oj hj hl e he hb)

/-- 'bf j i': j waits for i, by whatever way. -/
def BfOk (ops : Array Oper) (bf : Nat → Nat → Bool) : Prop :=
  ∀ j oj, ops[j]? = some oj → ∀ i, bf j i = true → ∃ e ∈ oj.after, Region.binds .any e = true ∧ (e.on = i ∨ (e.on < j ∧ bf e.on i = true ∧ (ops[e.on]?).isSome = true))

theorem bf_listed {bf : Nat → Nat → Bool} (hb : BfOk ops bf) {listed : Array Bool} (hc : Closed ops listed) :
    ∀ (j : Nat) (oj : Oper), ops[j]? = some oj → listed.getD j false = true → ∀ i, bf j i = true → listed.getD i false = true := by
  intro j
  induction j using Nat.strongRecOn with
  | _ j ih =>
    intro oj hj hl i hi
    obtain ⟨e, he, hbd, h⟩ := hb j oj hj i hi
    have h1 := hc j oj hj hl e he hbd
    rcases h with h | ⟨hlt, h2, h3⟩
    · rw [← h]; exact h1
    · obtain ⟨ok, hk⟩ := Option.isSome_iff_exists.1 h3
      exact ih e.on hlt ok hk h1 i h2

theorem bf_ready {bf : Nat → Nat → Bool} (hb : BfOk ops bf) {listed : Array Bool} (hc : Closed ops listed) {j : Nat} (hj : j ∈ Region.ready .any ops listed) (i : Nat) (hi : bf j i = true) : listed.getD i false = true := by
  obtain ⟨_, oj, hoj, hall⟩ := mem_ready.1 hj
  obtain ⟨e, he, hbd, h⟩ := hb j oj hoj i hi
  have h1 := hall e he hbd
  rcases h with h | ⟨hlt, h2, h3⟩
  · rw [← h]; exact h1
  · obtain ⟨ok, hk⟩ := Option.isSome_iff_exists.1 h3
    exact bf_listed hb hc e.on ok hk h1 i h2

theorem getD_ft {listed : Array Bool} {i : Nat} (h : listed.getD i true = false) : listed.getD i false = false := by
  rcases Nat.lt_or_ge i listed.size with h' | h'
  · simp [h'] at h ⊢; exact h
  · simp [Array.getElem?_eq_none h'] at h

theorem shrink_cons {isW : Nat → Bool} {bf : Nat → Nat → Bool} {i j : Nat} {f : Option (Heap → Prop)} {pd : Pend} (h : bf j i = false) : shrink isW bf j ((i, f) :: pd) = (i, f) :: shrink isW bf j pd := by
  unfold shrink
  split <;> simp [h]

/-- **An operation that reads at most may be taken first.** -/
theorem first_R {w0 : World} {isW : Nat → Bool} {bf : Nat → Nat → Bool} {Q : Act → Heap → Prop} (hb : BfOk ops bf) (hs : Region.noSelect ops = true) {i : Nat} {oi : Oper} {v : Value} {f : Option (Heap → Prop)} (hi : ops[i]? = some oi) (hiw : isW i = false) :
    ∀ (n : Nat) (pd : Pend) (listed : Array Bool) (a : Act) (H : Heap), Closed ops listed →
      (∀ j oj, ops[j]? = some oj → j ≠ i → listed.getD j true = false → (∀ e ∈ oj.after, Region.binds .any e = true → e.on ≠ i) → oi.apart ops oj = true) →
      i ∈ Region.ready .any ops listed → YieldH P ops oi v f a →
      wpAnyH P w0 ops isW bf Q n ((i, f) :: pd) (listed.setIfInBounds i true) (a.put oi.dst v) H → wpAnyH P w0 ops isW bf Q (n + 1) pd listed a H := by
  intro n
  induction n with
  | zero =>
    intro pd listed a H hc _ hr hy h
    refine ⟨fun x hx => h.1 x (List.mem_cons_of_mem _ hx), fun h0 => (by rw [h0] at hr; cases hr), fun j hj => ?_⟩
    by_cases hji : j = i
    · subst hji
      refine hy.step hi (h.1 _ List.mem_cons_self) ?_
      refine ⟨fun x hx => ?_, h.2⟩
      have : x ∈ pd := by unfold shrink at hx; rw [if_neg (by simp [hiw])] at hx; exact hx
      exact h.1 x (List.mem_cons_of_mem _ this)
    · have := ready_mono hj hji
      rw [h.2.1] at this
      cases this
  | succ n ih =>
    intro pd listed a H hc hfree hr hy h
    refine ⟨fun x hx => h.1 x (List.mem_cons_of_mem _ hx), fun h0 => (by rw [h0] at hr; cases hr), fun j hj => ?_⟩
    by_cases hji : j = i
    · subst hji
      refine hy.step hi (h.1 _ List.mem_cons_self) ?_
      have e1 : shrink isW bf j pd = pd := by unfold shrink; rw [if_neg (by simp [hiw])]
      rw [e1]
      have dropHead : ∀ (n : Nat) (pd pd' : Pend) (listed : Array Bool) (a : Act) (H : Heap), (∀ x ∈ pd', x ∈ pd) → wpAnyH P w0 ops isW bf Q n pd listed a H → wpAnyH P w0 ops isW bf Q n pd' listed a H := by
        intro n
        induction n with
        | zero => intro pd pd' listed a H hs h; exact ⟨fun x hx => h.1 x (hs x hx), h.2⟩
        | succ n ih2 =>
          intro pd pd' listed a H hs h
          refine ⟨fun x hx => h.1 x (hs x hx), h.2.1, fun k hk => stepW_mono (fun a' H' => ih2 _ _ _ a' H' ?_) (h.2.2 k hk)⟩
          intro x hx
          unfold shrink at hx ⊢
          split
          · rename_i hw; rw [if_pos hw] at hx
            rw [List.mem_filter] at hx ⊢
            exact ⟨hs x hx.1, hx.2⟩
          · rename_i hw; rw [if_neg hw] at hx; exact hs x hx
      exact dropHead _ _ _ _ _ _ (fun x hx => List.mem_cons_of_mem _ hx) h
    · have h1 := h.2.2 j (ready_mono hj hji)
      obtain ⟨hjun, oj, hoj, hall⟩ := mem_ready.1 hj
      have hiun := getD_ft (mem_ready.1 hr).1
      have hnot : ∀ e ∈ oj.after, Region.binds .any e = true → e.on ≠ i := fun e he hb' heq => by
        have h1 := hall e he hb'
        rw [heq, hiun] at h1; cases h1
      have hbfn : bf j i = false := by
        cases hbf : bf j i with
        | false => rfl
        | true => have := bf_ready hb hc hj i hbf; rw [hiun] at this; cases this
      have h2 := stepW_put hoj (hfree j oj hoj hji hjun hnot) (fun cs b => Region.noSelect_spec hs i oi cs b hi) (fun cs b => Region.noSelect_spec hs j oj cs b hoj) hy h1
      have hfree' : ∀ k ok, ops[k]? = some ok → k ≠ i → (listed.setIfInBounds j true).getD k true = false →
          (∀ e ∈ ok.after, Region.binds .any e = true → e.on ≠ i) → oi.apart ops ok = true := fun k ok hk hki hun hno => by
        refine hfree k ok hk hki ?_ hno
        by_cases hjk : j = k
        · subst hjk; exact hjun
        · rw [getD_set_ne true hjk] at hun; exact hun
      refine stepW_mono (fun a' H' h3 => ih _ (listed.setIfInBounds j true) a' H' (hc.set hj) hfree' (ready_mono hr (Ne.symm hji)) h3.1 ?_) h2
      have h4 := h3.2
      rw [shrink_cons hbfn, Array.setIfInBounds_comm _ _ (Ne.symm hji)] at h4
      exact h4
end
end Go.Nm
