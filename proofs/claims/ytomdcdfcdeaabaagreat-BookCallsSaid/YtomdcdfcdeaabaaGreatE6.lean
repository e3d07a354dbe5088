/-
  The engine, part 6: regions.
-/
import Derived.Test.YtomdcdfcdeaabaaGreatE5
namespace Go.Nm
open Go

/-- (j, w, b): that operation j has yielded w is b. -/
abbrev Kn := List (Nat × Bool × Bool)
inductive GC where
  | yes | no | bad
  | iff (c : Prop)

def knOf : Kn → Nat → Bool → Option Bool
  | [], _, _ => none
  | (j', w', b) :: r, j, w => if Nat.beq j' j then (if w' == w then some b else (if b then some false else knOf r j w)) else knOf r j w

def dstOf (ops : Array Oper) (j : Nat) : Option Tmp := match lget ops.toList j with | some o => o.dst | none => none

def gcond (ops : Array Oper) (fr : Fr) (kn : Kn) : Nat → Option (Nat × Bool) → GC
  | _, none => .yes
  | 0, some _ => .bad
  | n + 1, some (j, w) => match knOf kn j w with
    | some true => .yes
    | some false => .no
    | none => match dstOf ops j with
      | none => .no
      | some d => match lget fr d with
        | some (.p (.bool c)) => .iff (c = w)
        | some (.p (.tuple _)) => .no
        | some (.p _) => .bad
        | some (.g h w' (.bool c)) => match gcond ops fr kn n (some (h, w')) with
          | .yes => .iff (c = w)
          | .iff p => .iff (p ∧ c = w)
          | .no => .no
          | .bad => .bad
        | _ => .bad

/-- Whoever goes under the guard 'gd' knows that operation j has yielded w. -/
def impl (ops : Array Oper) (fr : Fr) : Nat → Option (Nat × Bool) → Nat → Bool → Bool
  | 0, _, _, _ => false
  | _, none, _, _ => false
  | n + 1, some (j', w'), j, w => (Nat.beq j' j && w' == w) || (match dstOf ops j' with
    | some d => match lget fr d with
      | some (.g h w'' _) => impl ops fr n (some (h, w'')) j w
      | _ => false
    | none => false)
def heldB (ops : Array Oper) (fr : Fr) (kn : Kn) (gd : Option (Nat × Bool)) (j : Nat) (w : Bool) : Bool :=
  match knOf kn j w with
  | some b => b
  | none => impl ops fr 9 gd j w

def evG (ops : Array Oper) (fr : Fr) (kn : Kn) (gd : Option (Nat × Bool)) : Operand → Option Value
  | .tmp t => match lget fr t with
    | some (.p v) => some v
    | some (.g j w v) => if heldB ops fr kn gd j w then some v else none
    | _ => none
  | .const v => some v
  | .global g => some (.pointer (some ⟨g, 0, none⟩))
  | .func f => some (.func (.func f) #[] #[])

/-- A pick's side. -/
def pkSide (ops : Array Oper) (fr : Fr) (kn : Kn) (gd : Option (Nat × Bool)) (side : Bool) (a x : Operand) : Option Value :=
  match evG ops fr kn gd x with
  | some v => some v
  | none => match a, x with
    | .tmp s, .tmp t => match lget fr t with
      | some (.g j w v) => match dstOf ops j with
        | some d => if Nat.beq d s && w == side then some v else none
        | none => none
      | _ => none
    | _, _ => none
/-- Is a bool slot's value known? -/
def knSlot (ops : Array Oper) : Kn → Nat → Option Bool
  | [], _ => none
  | (j, w, b) :: r, t => match dstOf ops j with
    | some d => if Nat.beq d t then some (w == b) else knSlot ops r t
    | none => knSlot ops r t
def pkG (ops : Array Oper) (fr : Fr) (kn : Kn) (gd : Option (Nat × Bool)) (a b d : Operand) : Option (Bool × Value × Value) :=
  match evG ops fr kn gd a with
  | some (.bool c) => match (match a with | .tmp t => knSlot ops kn t | _ => none) with
    | some true => match pkSide ops fr kn gd true a b with | some v => some (true, v, v) | none => none
    | some false => match pkSide ops fr kn gd false a d with | some v => some (false, v, v) | none => none
    | none => match pkSide ops fr kn gd true a b, pkSide ops fr kn gd false a d with | some x, some y => some (c, x, y) | _, _ => none
  | _ => none

def okDst (ops : Array Oper) : List Nat → Option Tmp → Bool
  | _, none => true
  | [], some _ => true
  | j :: r, some t => (match dstOf ops j with | some u => !(Nat.beq u t) | none => true) && okDst ops r (some t)
def gcons (g : Option (Nat × Bool)) (gs : List Nat) : List Nat := match g with | some (j, _) => j :: gs | none => gs

section defs
variable (X : Ctx) (ops : Array Oper)

def vcPR (o : Oper) (kn : Kn) (gs : List Nat) (fr : Fr) (H : Heap) (k : Fr → List Nat → Option (Heap → Prop) → Prop) : Prop :=
  if okDst ops (gcons o.guard gs) o.dst = false then False else
  match gcond ops fr kn 9 o.guard with
  | .bad => False
  | .no => k (fr.put o.dst (.p undef)) gs none
  | .yes => (match kindOf X o.op with
    | .P => pureOp X (evG ops fr kn o.guard) (pkG ops fr kn o.guard) none o.op fun v => k (fr.put o.dst (.p v)) gs none
    | .R => readOp X (evG ops fr kn o.guard) none o H fun v f => k (fr.put o.dst (.p v)) gs (some f)
    | .W => False)
  | .iff c => (match o.guard with
    | none => False
    | some (j, w) => (match kindOf X o.op with
      | .P => pureOp X (evG ops fr kn o.guard) (pkG ops fr kn o.guard) (some c) o.op fun v => k (fr.put o.dst (.g j w v)) (j :: gs) none
      | .R => readOp X (evG ops fr kn o.guard) (some c) o H fun v f => k (fr.put o.dst (.g j w v)) (j :: gs) (some f)
      | .W => False))

def vcW (o : Oper) (kn : Kn) (gs : List Nat) (fr : Fr) (H : Heap) (k : Fr → Kn → List Nat → Heap → Prop) : Prop :=
  if okDst ops (gcons o.guard gs) o.dst = false then False else
  match gcond ops fr kn 9 o.guard with
  | .bad => False
  | .no => k (fr.put o.dst (.p undef)) kn gs H
  | .yes => writeOp X (evG ops fr kn o.guard) o H fun v H' => k (fr.put o.dst (.p v)) kn gs H'
  | .iff c => (match o.guard with
    | none => False
    | some (j, w) => (c → writeOp X (evG ops fr kn o.guard) o H fun v H' => k (fr.put o.dst (.p v)) ((j, w, true) :: kn) (j :: gs) H') ∧
      (¬ c → k (fr.put o.dst (.p undef)) ((j, w, false) :: kn) (j :: gs) H))

/-- In the text's order. -/
def vcSeq (K : Fr → Heap → Prop) : List Oper → Kn → List Nat → Fr → Heap → Prop
  | [], _, _, fr, H => K (endReg fr) H
  | o :: r, kn, gs, fr, H => match kindOf X o.op with
    | .W => vcW X ops o kn gs fr H fun fr' kn' gs' H' => vcSeq K r kn' gs' fr' H'
    | _ => vcPR X ops o kn gs fr H fun fr' gs' _ => vcSeq K r kn gs' fr' H

def maskOf (acc : List Nat) : List Edge → Nat → Nat
  | [], s => s
  | e :: r, s => maskOf acc r (if Region.binds .any e then s ||| 2 ^ e.on ||| (match lget acc e.on with | some m => m | none => 0) else s)
def bfGo : List Oper → List Nat → List Nat
  | [], acc => acc
  | o :: r, acc => bfGo r (acc ++ [maskOf acc o.after.toList 0])
def bfB (B : List Nat) (j i : Nat) : Bool := match lget B j with | some m => m.testBit i | none => false

def firstPR : List Nat → Option Nat
  | [] => none
  | i :: r => match lget ops.toList i with
    | some o => (match kindOf X o.op with | .W => firstPR r | _ => some i)
    | none => firstPR r
def allL : List Nat → (Nat → Prop) → Prop
  | [], _ => False
  | [i], f => f i
  | i :: r, f => f i ∧ allL r f
def pendThen : Pend → Heap → Prop → Prop
  | [], _, q => q
  | (_, none) :: r, H, q => pendThen r H q
  | (_, some f) :: r, H, q => f H ∧ pendThen r H q
def strike (B : List Nat) (i : Nat) : Pend → Pend
  | [] => []
  | x :: r => if bfB B i x.1 then strike B i r else x :: strike B i r

/-- In whatever order. -/
def vcDraw (B : List Nat) (K : Fr → Heap → Prop) : Nat → Array Bool → Pend → Kn → List Nat → Fr → Heap → Prop
  | 0, listed, _, _, _, fr, H => (match Region.ready .any ops listed with | [] => K (endReg fr) H | _ => False)
  | n + 1, listed, pd, kn, gs, fr, H => match firstPR X ops (Region.ready .any ops listed) with
    | some i => (match lget ops.toList i with
      | none => False
      | some o => if Region.free .any ops listed i = false then False else
        vcPR X ops o kn gs fr H fun fr' gs' f => vcDraw B K n (listed.setIfInBounds i true) ((i, f) :: pd) kn gs' fr' H)
    | none => allL (Region.ready .any ops listed) fun i => (match lget ops.toList i with
      | none => False
      | some o => vcW X ops o kn gs fr H fun fr' kn' gs' H' => pendThen (strike B i pd) H' (vcDraw B K n (listed.setIfInBounds i true) (strike B i pd) kn' gs' fr' H'))
end defs

/-! ### what it is worth -/
structure RelG (ops : Array Oper) (fr : Fr) (kn : Kn) (gs : List Nat) (a : Act) : Prop where
  size : a.tmps.size = fr.length
  pv : ∀ t v, lget fr t = some (.p v) → a.tmps[t]? = some v
  gv : ∀ t j w v, lget fr t = some (.g j w v) → j ∈ gs ∧ (yielded ops a.tmps j = some w → a.tmps[t]? = some v) ∧ (yielded ops a.tmps j ≠ some w → a.tmps[t]? = some undef)
  kn : ∀ x ∈ kn, x.1 ∈ gs ∧ (yielded ops a.tmps x.1 = some x.2.1 ↔ x.2.2 = true)

def wantG (ops : Array Oper) (g : Option (Nat × Bool)) (a : Act) : Prop := match g with | none => True | some (j, w) => yielded ops a.tmps j = some w

section
variable {X : Ctx} {ops : Array Oper} {fr : Fr} {kn : Kn} {gs : List Nat} {a : Act}

theorem wantG_iff (o : Oper) : Region.wanted o (yielded ops a.tmps) = true ↔ wantG ops o.guard a := by
  unfold Region.wanted wantG
  cases o.guard with
  | none => simp
  | some g => simp

theorem dstOf_eq (j : Nat) : dstOf ops j = (ops[j]?).bind (·.dst) := by
  unfold dstOf
  rw [lget_eq]
  simp only [Array.getElem?_toList]
  cases ops[j]? <;> rfl

theorem yielded_of {j d : Nat} (h : dstOf ops j = some d) : yielded ops a.tmps j = (match a.tmps[d]? with | some (.bool b) => some b | _ => none) := by
  rw [dstOf_eq] at h
  unfold yielded
  rw [h]; rfl
theorem yielded_none {j : Nat} (h : dstOf ops j = none) : yielded ops a.tmps j = none := by
  rw [dstOf_eq] at h
  unfold yielded
  rw [h]; rfl

theorem knOf_in (R : RelG ops fr kn gs a) {j : Nat} {w b : Bool} : ∀ (l : Kn), (∀ x ∈ l, x ∈ kn) → knOf l j w = some b → (yielded ops a.tmps j = some w ↔ b = true) ∧ j ∈ gs
  | [], _, h => by simp [knOf] at h
  | (j', w', b') :: r, hs, h => by
    simp only [knOf] at h
    obtain ⟨hm, hx⟩ := R.kn _ (hs _ List.mem_cons_self)
    simp only at hm hx
    have ih := knOf_in R r (fun x hx => hs x (List.mem_cons_of_mem _ hx)) (j := j) (w := w) (b := b)
    split at h
    · rename_i hj
      have hj' : j' = j := Nat.eq_of_beq_eq_true hj
      subst hj'
      split at h
      · rename_i hw
        have hw' : w' = w := by simpa using hw
        subst hw'
        cases h
        exact ⟨hx, hm⟩
      · rename_i hw
        split at h
        · rename_i hb
          cases h
          have := hx.2 hb
          refine ⟨⟨fun h1 => ?_, fun h1 => by cases h1⟩, hm⟩
          rw [this] at h1
          exfalso; apply hw; simpa using h1
        · exact ih h
    · exact ih h
theorem knOf_spec (R : RelG ops fr kn gs a) {j : Nat} {w b : Bool} (h : knOf kn j w = some b) : (yielded ops a.tmps j = some w ↔ b = true) ∧ j ∈ gs :=
  knOf_in R kn (fun _ hx => hx) h

theorem gcond_spec (R : RelG ops fr kn gs a) : ∀ (n : Nat) (g : Option (Nat × Bool)), match gcond ops fr kn n g with
    | .yes => wantG ops g a
    | .no => ¬ wantG ops g a
    | .bad => True
    | .iff c => wantG ops g a ↔ c
  | n, none => by cases n <;> simp [gcond, wantG]
  | 0, some _ => by simp [gcond]
  | n + 1, some (j, w) => by
    simp only [gcond]
    cases hk : knOf kn j w with
    | some b =>
      have := (knOf_spec R hk).1
      cases b
      · simp only [wantG]; simp [this]
      · simp only [wantG]; simp [this]
    | none =>
      cases hd : dstOf ops j with
      | none => simp only [wantG]; rw [yielded_none hd]; simp
      | some d =>
        cases hl : lget fr d with
        | none => simp only [hl]
        | some s =>
          cases s with
          | x => simp only [hl]
          | p v =>
            cases v with
            | bool c =>
              simp only [hl, wantG]
              rw [yielded_of hd, R.pv _ _ hl]
              simp
            | tuple c =>
              simp only [hl, wantG]
              rw [yielded_of hd, R.pv _ _ hl]
              simp
            | _ => simp only [hl]
          | g h w' v =>
            cases v <;> simp only [hl]
            rename_i c
            obtain ⟨_, h1, h2⟩ := R.gv _ _ _ _ hl
            have ih := gcond_spec R n (some (h, w'))
            cases hg : gcond ops fr kn n (some (h, w')) with
            | yes =>
              simp only [hg, wantG] at ih ⊢
              rw [yielded_of hd, h1 ih]; simp
            | no =>
              simp only [hg, wantG] at ih ⊢
              rw [yielded_of hd, h2 ih]; simp [undef]
            | bad => simp only
            | iff p =>
              simp only [hg, wantG] at ih ⊢
              rw [yielded_of hd]
              by_cases hy : yielded ops a.tmps h = some w'
              · rw [h1 hy]; simp [ih.1 hy]
              · rw [h2 hy]; simp [undef]
                intro hp; exact absurd (ih.2 hp) hy

theorem impl_spec (R : RelG ops fr kn gs a) {j : Nat} {w : Bool} : ∀ (n : Nat) (g : Option (Nat × Bool)), impl ops fr n g j w = true → wantG ops g a → yielded ops a.tmps j = some w
  | 0, _, h, _ => by simp [impl] at h
  | n + 1, none, h, _ => by simp [impl] at h
  | n + 1, some (j', w'), h, hg => by
    simp only [impl, Bool.or_eq_true, Bool.and_eq_true] at h
    rcases h with ⟨h1, h2⟩ | h
    · have e1 : j' = j := Nat.eq_of_beq_eq_true h1
      have e2 : w' = w := by simpa using h2
      subst e1; subst e2
      exact hg
    · cases hd : dstOf ops j' with
      | none => simp [hd] at h
      | some d =>
        simp only [hd] at h
        cases hl : lget fr d with
        | none => simp [hl] at h
        | some s =>
          cases s with
          | p v => simp [hl] at h
          | x => simp [hl] at h
          | g hh w'' v =>
            simp only [hl] at h
            obtain ⟨_, h1, h2⟩ := R.gv _ _ _ _ hl
            refine impl_spec R n _ h ?_
            simp only [wantG] at hg ⊢
            by_cases hy : yielded ops a.tmps hh = some w''
            · exact hy
            · rw [yielded_of hd, h2 hy] at hg
              simp [undef] at hg

theorem held_spec (R : RelG ops fr kn gs a) {gd : Option (Nat × Bool)} {j : Nat} {w : Bool} (h : heldB ops fr kn gd j w = true) (hg : wantG ops gd a) : yielded ops a.tmps j = some w := by
  unfold heldB at h
  cases hk : knOf kn j w with
  | some b => rw [hk] at h; exact (knOf_spec R hk).1.2 h
  | none => rw [hk] at h; exact impl_spec R 9 gd h hg

theorem eval_tmp {t : Nat} {v : Value} (h : a.tmps[t]? = some v) : a.eval (.tmp t) = v := by
  simp [Act.eval, Array.getD_eq_getD_getElem?, h]

theorem evG_spec (R : RelG ops fr kn gs a) {gd : Option (Nat × Bool)} (x : Operand) (v : Value) (h : evG ops fr kn gd x = some v) (hg : wantG ops gd a) : a.eval x = v := by
  cases x with
  | const u => simp [evG] at h; subst h; rfl
  | global g => simp [evG] at h; subst h; rfl
  | func f => simp [evG] at h; subst h; rfl
  | tmp t =>
    simp only [evG] at h
    cases hl : lget fr t with
    | none => simp [hl] at h
    | some s =>
      cases s with
      | p u => simp [hl] at h; subst h; exact eval_tmp (R.pv _ _ hl)
      | x => simp [hl] at h
      | g j w u =>
        simp only [hl] at h
        split at h
        · rename_i hh
          cases h
          exact eval_tmp ((R.gv _ _ _ _ hl).2.1 (held_spec R hh hg))
        · cases h

theorem pkSide_spec (R : RelG ops fr kn gs a) {gd : Option (Nat × Bool)} {side : Bool} {x y : Operand} {v : Value} (h : pkSide ops fr kn gd side x y = some v) (hg : wantG ops gd a) (hx : a.eval x = .bool side) : a.eval y = v := by
  unfold pkSide at h
  cases he : evG ops fr kn gd y with
  | some u => rw [he] at h; cases h; exact evG_spec R y _ he hg
  | none =>
    rw [he] at h
    cases x <;> cases y <;> simp only at h <;> try cases h
    rename_i s t
    cases hl : lget fr t with
    | none => simp [hl] at h
    | some sv =>
      cases sv with
      | p u => simp [hl] at h
      | x => simp [hl] at h
      | g j w u =>
        simp only [hl] at h
        cases hd : dstOf ops j with
        | none => simp [hd] at h
        | some d =>
          simp only [hd] at h
          split at h
          · rename_i hc
            cases h
            simp only [Bool.and_eq_true] at hc
            have e1 : d = s := Nat.eq_of_beq_eq_true hc.1
            have e2 : w = side := by simpa using hc.2
            subst e1; subst e2
            refine eval_tmp ((R.gv _ _ _ _ hl).2.1 ?_)
            rw [yielded_of hd]
            simp only [Act.eval, Array.getD_eq_getD_getElem?] at hx
            cases ht : a.tmps[d]? with
            | none => rw [ht] at hx; simp [undef] at hx
            | some u' => rw [ht] at hx; simp at hx; subst hx; rfl
          · cases h

theorem knSlot_in (R : RelG ops fr kn gs a) {t : Nat} {b c : Bool} (hc : a.tmps[t]? = some (.bool c)) : ∀ (l : Kn), (∀ x ∈ l, x ∈ kn) → knSlot ops l t = some b → c = b
  | [], _, h => by simp [knSlot] at h
  | (j, w, b') :: r, hs, h => by
    simp only [knSlot] at h
    have ih := knSlot_in R hc r (fun x hx => hs x (List.mem_cons_of_mem _ hx)) (b := b)
    cases hd : dstOf ops j with
    | none => simp only [hd] at h; exact ih h
    | some d =>
      simp only [hd] at h
      split at h
      · rename_i hb
        have e1 : d = t := Nat.eq_of_beq_eq_true hb
        subst e1
        have := (R.kn _ (hs _ List.mem_cons_self)).2
        simp only at this
        rw [yielded_of hd, hc] at this
        cases w <;> cases b' <;> cases c <;> simp at this h ⊢ <;> simp [← h]
      · exact ih h
theorem knSlot_spec (R : RelG ops fr kn gs a) {t : Nat} {b c : Bool} (h : knSlot ops kn t = some b) (hc : a.tmps[t]? = some (.bool c)) : c = b :=
  knSlot_in R hc kn (fun _ hx => hx) h

theorem pkG_spec (R : RelG ops fr kn gs a) {gd : Option (Nat × Bool)} (x y z : Operand) (r : Bool × Value × Value) (h : pkG ops fr kn gd x y z = some r) (hg : wantG ops gd a) :
    a.eval x = .bool r.1 ∧ (r.1 = true → a.eval y = r.2.1) ∧ (r.1 = false → a.eval z = r.2.2) := by
  unfold pkG at h
  cases he : evG ops fr kn gd x with
  | none => simp [he] at h
  | some u =>
    have hx := evG_spec R x u he hg
    cases u <;> simp only [he] at h <;> try cases h
    rename_i c
    split at h
    · rename_i hk
      have hc : c = true := by
        cases x <;> simp only at hk <;> try cases hk
        rename_i t
        refine knSlot_spec R hk ?_
        simp only [Act.eval, Array.getD_eq_getD_getElem?] at hx
        cases ht : a.tmps[t]? with
        | none => rw [ht] at hx; simp [undef] at hx
        | some u' => rw [ht] at hx; simp at hx; subst hx; rfl
      subst hc
      cases hs : pkSide ops fr kn gd true x y with
      | none => simp [hs] at h
      | some v => simp [hs] at h; subst h; exact ⟨hx, fun _ => pkSide_spec R hs hg hx, fun h => by cases h⟩
    · rename_i hk
      have hc : c = false := by
        cases x <;> simp only at hk <;> try cases hk
        rename_i t
        refine knSlot_spec R hk ?_
        simp only [Act.eval, Array.getD_eq_getD_getElem?] at hx
        cases ht : a.tmps[t]? with
        | none => rw [ht] at hx; simp [undef] at hx
        | some u' => rw [ht] at hx; simp at hx; subst hx; rfl
      subst hc
      cases hs : pkSide ops fr kn gd false x z with
      | none => simp [hs] at h
      | some v => simp [hs] at h; subst h; exact ⟨hx, fun h => (by cases h), fun _ => pkSide_spec R hs hg hx⟩
    · cases hs : pkSide ops fr kn gd true x y with
      | none => simp [hs] at h
      | some v => cases hs' : pkSide ops fr kn gd false x z with
        | none => simp [hs, hs'] at h
        | some v' =>
          simp [hs, hs'] at h; subst h
          exact ⟨hx, fun hc => pkSide_spec R hs hg (by rw [hx]; simp at hc; rw [hc]), fun hc => pkSide_spec R hs' hg (by rw [hx]; simp at hc; rw [hc])⟩
end
end Go.Nm
