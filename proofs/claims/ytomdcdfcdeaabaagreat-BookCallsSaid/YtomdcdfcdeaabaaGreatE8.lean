/-
  The engine, part 8: code.
-/
import Derived.Test.YtomdcdfcdeaabaaGreatE7
import Derived.RangeFuncWrites
namespace Go.Nm
open Go

/-! ### live slots -/
def Leaf.fits : Leaf → Value → Bool
  | .int k, .int k' _ => k = k'
  | .bool, .bool _ => true
  | .str, .string _ => true
  | .ptr, .pointer _ => true
  | .slice, .slice _ _ _ => true
  | .map, .map _ => true
  | .raw, _ => true
  | .fnv, .func (.func _) ⟨[]⟩ _ => true
  | .adr, .pointer (some ⟨_, _, none⟩) => true
  | _, _ => false
def fitsLs : List Leaf → List Value → Bool
  | [], [] => true
  | l :: r, v :: vs => l.fits v && fitsLs r vs
  | _, _ => false
def Sh.fits : Sh → Value → Bool
  | .one l, v => l.fits v
  | .agg ls, .agg cs => fitsLs ls cs.toList
  | .agg _, _ => false
def Leaf.lam : (l : Leaf) → {T : Type} → (Value → T) → l.fn T
  | .int k, _, f => fun n => f (.int k n)
  | .bool, _, f => fun b => f (.bool b)
  | .str, _, f => fun s => f (.string s)
  | .ptr, _, f => fun a => f (.pointer a)
  | .slice, _, f => fun a n c => f (.slice a n c)
  | .map, _, f => fun r => f (.map r)
  | .raw, _, f => fun v => f v
  | .fnv, _, f => fun g cap => f (.func (.func g) ⟨[]⟩ ⟨cap⟩)
  | .adr, _, f => fun b o => f (.pointer (some ⟨b, o, none⟩))
def lamLs : (ls : List Leaf) → {T : Type} → (List Value → T) → fnLs ls T
  | [], _, f => f []
  | l :: r, T, f => l.lam (T := fnLs r T) fun v => lamLs r fun vs => f (v :: vs)
def Sh.lam : (s : Sh) → {T : Type} → (Value → T) → s.fn T
  | .one l, _, f => l.lam f
  | .agg ls, _, f => lamLs ls fun vs => f (.agg ⟨vs⟩)
def lamJ : (L : Live) → {T : Type} → (List Value → T) → JT T L
  | [], _, f => f []
  | (_, s) :: r, T, f => s.lam (T := JT T r) fun v => lamJ r fun vs => f (v :: vs)

theorem fits_fnv {v : Value} (h : Leaf.fits .fnv v = true) : ∃ g cap, v = .func (.func g) ⟨[]⟩ cap := by
  cases v <;> (try cases h)
  rename_i fn first cap
  cases fn <;> (try cases h)
  rcases first with ⟨_ | _⟩ <;> (try cases h)
  exact ⟨_, _, rfl⟩
theorem fits_adr {v : Value} (h : Leaf.fits .adr v = true) : ∃ b o, v = .pointer (some ⟨b, o, none⟩) := by
  cases v <;> (try cases h)
  rename_i a
  rcases a with _ | ⟨b, o, _ | s⟩ <;> (try cases h)
  exact ⟨_, _, rfl⟩
theorem leaf_app_lam (l : Leaf) {T : Type} (f : Value → T) (v : Value) (h : l.fits v = true) : l.app (l.lam f) v = some (f v) := by
  cases l
  case fnv => obtain ⟨g, ⟨cap⟩, rfl⟩ := fits_fnv h; rfl
  case adr => obtain ⟨b, o, rfl⟩ := fits_adr h; rfl
  all_goals (cases v <;> simp_all [Leaf.fits, Leaf.app, Leaf.lam])
theorem leaf_app_fits (l : Leaf) {T : Type} (f : l.fn T) (v : Value) (g : T) (h : l.app f v = some g) : l.fits v = true := by
  cases l
  case fnv =>
    cases v <;> (try cases h)
    rename_i fn first cap
    cases fn <;> (try cases h)
    rcases first with ⟨_ | _⟩ <;> (try cases h)
    rfl
  case adr =>
    cases v <;> (try cases h)
    rename_i a
    rcases a with _ | ⟨b, o, _ | s⟩ <;> (try cases h)
    rfl
  all_goals (cases v <;> simp_all [Leaf.fits, Leaf.app])
theorem leaf_all {l : Leaf} {K : Value → Prop} : l.all K ↔ ∀ v, l.fits v = true → K v := by
  cases l
  case int k => exact ⟨fun h v hv => by cases v <;> simp [Leaf.fits] at hv; subst hv; exact h _, fun h n => h _ (by simp [Leaf.fits])⟩
  case bool => exact ⟨fun h v hv => by cases v <;> simp [Leaf.fits] at hv; exact h _, fun h n => h _ rfl⟩
  case str => exact ⟨fun h v hv => by cases v <;> simp [Leaf.fits] at hv; exact h _, fun h n => h _ rfl⟩
  case ptr => exact ⟨fun h v hv => by cases v <;> simp [Leaf.fits] at hv; exact h _, fun h n => h _ rfl⟩
  case slice => exact ⟨fun h v hv => by cases v <;> simp [Leaf.fits] at hv; exact h _ _ _, fun h a n c => h _ rfl⟩
  case adr => exact ⟨fun h v hv => by obtain ⟨b, o, rfl⟩ := fits_adr hv; exact h _ _, fun h b o => h _ rfl⟩
  case fnv => exact ⟨fun h v hv => by obtain ⟨g, ⟨cap⟩, rfl⟩ := fits_fnv hv; exact h _ _, fun h f cap => h _ rfl⟩
  case map => exact ⟨fun h v hv => by cases v <;> simp [Leaf.fits] at hv; exact h _, fun h n => h _ rfl⟩
  case raw => exact ⟨fun h v _ => h v, fun h v => h v rfl⟩
theorem ls_app_lam : ∀ (ls : List Leaf) {T : Type} (f : List Value → T) (vs : List Value), fitsLs ls vs = true → appLs ls (lamLs ls f) vs = some (f vs)
  | [], _, f, [], _ => rfl
  | [], _, f, _ :: _, h => by cases h
  | l :: r, _, f, [], h => by cases h
  | l :: r, T, f, v :: vs, h => by
    simp only [fitsLs, Bool.and_eq_true] at h
    simp only [appLs, lamLs]
    rw [leaf_app_lam l _ v h.1]
    exact ls_app_lam r _ vs h.2
theorem ls_app_fits : ∀ (ls : List Leaf) {T : Type} (f : fnLs ls T) (vs : List Value) (g : T), appLs ls f vs = some g → fitsLs ls vs = true
  | [], _, f, [], _, _ => rfl
  | [], _, f, _ :: _, _, h => by cases h
  | l :: r, _, f, [], _, h => by cases h
  | l :: r, T, f, v :: vs, g, h => by
    simp only [appLs] at h
    split at h
    · rename_i f' hf
      simp only [fitsLs, Bool.and_eq_true]
      exact ⟨leaf_app_fits l _ v _ hf, ls_app_fits r _ vs g h⟩
    · cases h
theorem ls_all : ∀ {ls : List Leaf} {K : List Value → Prop}, allLs ls K ↔ ∀ vs, fitsLs ls vs = true → K vs
  | [], K => ⟨fun h vs hv => (by cases vs with | nil => exact h | cons => cases hv), fun h => h [] rfl⟩
  | l :: r, K => by
    simp only [allLs, leaf_all, ls_all]
    refine ⟨fun h vs hv => ?_, fun h v hv vs hvs => h _ (by simp [fitsLs, hv, hvs])⟩
    cases vs with
    | nil => cases hv
    | cons v vs =>
      simp only [fitsLs, Bool.and_eq_true] at hv
      exact h v hv.1 vs hv.2
theorem sh_app_lam (s : Sh) {T : Type} (f : Value → T) (v : Value) (h : s.fits v = true) : s.app (s.lam f) v = some (f v) := by
  cases s with
  | one l => exact leaf_app_lam l f v h
  | agg ls =>
    cases v <;> try cases h
    rename_i cs
    simp only [Sh.app, Sh.lam]
    rw [ls_app_lam ls _ cs.toList h]
theorem sh_app_fits (s : Sh) {T : Type} (f : s.fn T) (v : Value) (g : T) (h : s.app f v = some g) : s.fits v = true := by
  cases s with
  | one l => exact leaf_app_fits l f v g h
  | agg ls =>
    cases v <;> try cases h
    rename_i cs
    exact ls_app_fits ls f cs.toList g h
theorem sh_all {s : Sh} {K : Value → Prop} : s.all K ↔ ∀ v, s.fits v = true → K v := by
  cases s with
  | one l => exact leaf_all
  | agg ls =>
    simp only [Sh.all, ls_all]
    refine ⟨fun h v hv => ?_, fun h vs hvs => h _ hvs⟩
    cases v <;> try cases hv
    exact h _ hv

def fitsL : Live → List Value → Bool
  | [], [] => true
  | (_, s) :: r, v :: vs => s.fits v && fitsL r vs
  | _, _ => false
def setL : Live → Fr → List Value → Fr
  | (t, _) :: r, fr, v :: vs => setL r (lset fr t (.p v)) vs
  | _, fr, _ => fr
def getL (fr : Fr) : Live → Option (List Value)
  | [] => some []
  | (t, _) :: r => match getP fr t, getL fr r with | some v, some vs => some (v :: vs) | _, _ => none
def appV : (L : Live) → {T : Type} → JT T L → List Value → Option T
  | [], _, j, [] => some j
  | (_, s) :: r, T, j, v :: vs => match s.app (T := JT T r) j v with | some j' => appV r j' vs | none => none
  | _, _, _, _ => none

theorem allJ_iff : ∀ {L : Live} {fr : Fr} {K : Fr → Prop}, allJ L fr K ↔ ∀ vs, fitsL L vs = true → K (setL L fr vs)
  | [], fr, K => ⟨fun h vs hv => (by cases vs with | nil => exact h | cons => cases hv), fun h => h [] rfl⟩
  | (t, s) :: r, fr, K => by
    simp only [allJ, sh_all, allJ_iff]
    refine ⟨fun h vs hv => ?_, fun h v hv vs hvs => h (v :: vs) (by simp [fitsL, hv, hvs])⟩
    cases vs with
    | nil => cases hv
    | cons v vs =>
      simp only [fitsL, Bool.and_eq_true] at hv
      exact h v hv.1 vs hv.2
theorem appJ_get : ∀ (L : Live) {T : Type} (j : JT T L) (fr : Fr) (g : T), appJ L j fr = some g → ∃ vs, getL fr L = some vs ∧ appV L j vs = some g ∧ fitsL L vs = true
  | [], _, j, fr, g, h => ⟨[], rfl, h, rfl⟩
  | (t, s) :: r, T, j, fr, g, h => by
    simp only [appJ] at h
    cases hg : getP fr t with
    | none => simp [hg] at h
    | some v =>
      simp only [hg] at h
      cases ha : s.app (T := JT T r) j v with
      | none => simp [ha] at h
      | some j' =>
        simp only [ha] at h
        obtain ⟨vs, h1, h2, h3⟩ := appJ_get r j' fr g h
        refine ⟨v :: vs, ?_, ?_, ?_⟩
        · simp only [getL, hg, h1]
        · simp only [appV, ha, h2]
        · simp only [fitsL, sh_app_fits s _ v _ ha, h3, Bool.and_self]
theorem appJ_of_get : ∀ (L : Live) {T : Type} (j : JT T L) (fr : Fr) (vs : List Value), getL fr L = some vs → appJ L j fr = appV L j vs
  | [], _, j, fr, vs, h => by simp [getL] at h; subst h; rfl
  | (t, s) :: r, T, j, fr, vs, h => by
    simp only [getL] at h
    cases hg : getP fr t with
    | none => simp [hg] at h
    | some v => cases hr : getL fr r with
      | none => simp [hg, hr] at h
      | some vs' =>
        simp only [hg, hr, Option.some.injEq] at h
        subst h
        simp only [appJ, hg, appV]
        cases s.app (T := JT T r) j v with
        | none => rfl
        | some j' => exact appJ_of_get r j' fr vs' hr
theorem appV_lam : ∀ (L : Live) {T : Type} (f : List Value → T) (vs : List Value), fitsL L vs = true → appV L (lamJ L f) vs = some (f vs)
  | [], _, f, [], _ => rfl
  | [], _, f, _ :: _, h => by cases h
  | _ :: _, _, f, [], h => by cases h
  | (t, s) :: r, T, f, v :: vs, h => by
    simp only [fitsL, Bool.and_eq_true] at h
    simp only [appV, lamJ]
    rw [sh_app_lam s _ v h.1]
    exact appV_lam r _ vs h.2

/-- The slots lie in the frame, each named once. -/
def liveOk : Live → Nat → Bool
  | [], _ => true
  | (t, _) :: r, n => Nat.blt t n && r.all (fun x => !(Nat.beq x.1 t)) && liveOk r n

theorem setL_length : ∀ (L : Live) (fr : Fr) (vs : List Value), (setL L fr vs).length = fr.length
  | [], fr, vs => by cases vs <;> rfl
  | (t, s) :: r, fr, [] => rfl
  | (t, s) :: r, fr, v :: vs => by simp only [setL]; rw [setL_length, lset_length]
theorem setL_other : ∀ (L : Live) (fr : Fr) (vs : List Value) (t : Nat), (∀ x ∈ L, x.1 ≠ t) → lget (setL L fr vs) t = lget fr t
  | [], fr, vs, t, _ => by cases vs <;> rfl
  | (u, s) :: r, fr, [], t, _ => rfl
  | (u, s) :: r, fr, v :: vs, t, h => by
    simp only [setL]
    rw [setL_other r _ vs t (fun x hx => h x (List.mem_cons_of_mem _ hx)), lget_lset, if_neg (fun hc => h _ List.mem_cons_self hc.1)]
theorem liveOk_cons {t : Nat} {s : Sh} {r : Live} {n : Nat} (h : liveOk ((t, s) :: r) n = true) : t < n ∧ (∀ x ∈ r, x.1 ≠ t) ∧ liveOk r n = true := by
  simp only [liveOk, Bool.and_eq_true, List.all_eq_true] at h
  refine ⟨by have := h.1.1; simpa [Nat.blt_eq] using this, fun x hx he => ?_, h.2⟩
  have := h.1.2 x hx
  rw [he] at this
  simp at this
theorem getL_set : ∀ (L : Live) (fr : Fr) (vs : List Value), liveOk L fr.length = true → fitsL L vs = true → getL (setL L fr vs) L = some vs
  | [], fr, [], _, _ => rfl
  | [], fr, _ :: _, _, h => by cases h
  | _ :: _, fr, [], _, h => by cases h
  | (t, s) :: r, fr, v :: vs, hok, h => by
    obtain ⟨h1, h2, h3⟩ := liveOk_cons hok
    simp only [fitsL, Bool.and_eq_true] at h
    have ih := getL_set r (lset fr t (.p v)) vs (by rw [lset_length]; exact h3) h.2
    simp only [setL, getL, ih]
    have : getP (setL r (lset fr t (.p v)) vs) t = some v := by
      unfold getP
      rw [setL_other r _ vs t h2, lget_lset, if_pos ⟨rfl, h1⟩]
    rw [this]
theorem getL_get : ∀ {L : Live} {fr : Fr} {vs : List Value}, getL fr L = some vs → ∀ fr', (∀ t v, lget fr t = some (.p v) → t < fr'.length) → ∀ t v, lget (setL L fr' vs) t = some (.p v) → lget fr t = some (.p v) ∨ (lget fr' t = some (.p v) ∧ ∀ x ∈ L, x.1 ≠ t)
  | [], fr, vs, h, fr', _, t, v, hl => by simp [getL] at h; subst h; exact .inr ⟨hl, fun x hx => by cases hx⟩
  | (u, s) :: r, fr, vs, h, fr', hlen, t, v, hl => by
    simp only [getL] at h
    cases hg : getP fr u with
    | none => simp [hg] at h
    | some v' => cases hr : getL fr r with
      | none => simp [hg, hr] at h
      | some vs' =>
        simp only [hg, hr, Option.some.injEq] at h
        subst h
        have hgu : lget fr u = some (.p v') := by
          unfold getP at hg
          split at hg
          · rename_i w hw; cases hg; exact hw
          · cases hg
        simp only [setL] at hl
        rcases getL_get hr (lset fr' u (.p v')) (fun t v h => by rw [lset_length]; exact hlen t v h) t v hl with h1 | ⟨h1, h2⟩
        · exact .inl h1
        · rw [lget_lset] at h1
          split at h1
          · rename_i hc
            cases h1
            left; rw [← hc.1]; exact hgu
          · rename_i hc
            refine .inr ⟨h1, fun x hx => ?_⟩
            rcases List.mem_cons.1 hx with rfl | hx
            · exact fun he => hc ⟨he, by have := hlen u v' hgu; exact this⟩
            · exact h2 x hx

/-! ### code -/
def opDsts : List Oper → List Nat
  | [] => []
  | o :: r => match o.dst with | some d => d :: opDsts r | none => opDsts r
def dsts : Code → List Nat
  | .region _ ops _ => opDsts ops.toList
  | .seq a b => dsts a ++ dsts b
  | .cond _ a b => dsts a ++ dsts b
  | .block _ a => dsts a
  | .loop a => dsts a
  | _ => []

inductive Ann where
  | no
  | reg
  | regJ (live : Live)
  | seq (a b : Ann)
  | cond (a b : Ann)
  | condJ (live : Live) (a b : Ann)
  | blk (a : Ann)
  | blkJ (live : Live) (a : Ann)
  | loop (live : Live) (a : Ann)
  | rng (shs : List Sh) (jumps : List (Option Code)) (x y : Ann)

def natJ (L : Live) (μ : JT (Heap → Nat) L) (fr : Fr) (H : Heap) : Nat := match appJ L μ fr with | some m => m H | none => 0

/-- What is common to several ways on: stated once. -/
def joinK (L : Live) (ds : List Nat) (fr : Fr) (rest : Fr → Heap → Prop) (body : (Fr → Heap → Prop) → Prop) : Prop :=
  if liveOk L fr.length = false then False else
  ∀ J : JT (Heap → Prop) L, (allJ L (kill ds fr) fun fr' => ∀ H', rest fr' H' → holdsJ L J fr' H') → body (holdsJ L J)

def vcRegion (X : Ctx) (ops : Array Oper) (draw : Bool) (K : Fr → Heap → Prop) (fr : Fr) (H : Heap) : Prop :=
  match draw with
  | false => vcSeq X ops K ops.toList [] [] fr H
  | true => if Region.noSelect ops = false then False else vcDraw X ops (bfGo ops.toList []) K ops.size (Array.replicate ops.size false) [] [] [] fr H


/-- The blocks in which a loop over a function keeps its rounds' deferred calls, the last one first. -/
abbrev QT := Exit → Fr → List Nat → Heap → Prop
def setLoop (H : Heap) (l : Nat) (R : Loop) : Heap := H.setIfInBounds l (.loop R)
def putArgs : Fr → List Tmp → List Value → Fr
  | fr, t :: ts, v :: vs => putArgs (lset fr t (.p v)) ts vs
  | fr, _, _ => fr
/-- How a round ends. -/
def roundEnd (l : Nat) (R : Loop) (K : Value → Heap → Prop) : Exit → Heap → Prop
  | .normal, H => K (.bool true) (setLoop H l R)
  | .ret, H => K (.bool false) (setLoop H l { R with state := .done, pending := some .ret })
  | .exit i, H => K (.bool false) (setLoop H l { R with state := .done, pending := some (.exit i) })
  | _, _ => False
def jumpQ (Q : Exit → Prop) : Option Code → Prop
  | none => Q .normal
  | some .ret => Q .ret
  | some (.exit i) => Q (.exit i)
  | some _ => False
/-- The jump that a round has left is one of these. -/
def jumpK (Q : Exit → Prop) : List (Option Code) → Option Code → Prop
  | [], _ => False
  | [c], pd => pd = c ∧ jumpQ Q c
  | c :: d :: r, pd => (pd = c ∧ jumpQ Q c) ∨ jumpK Q (d :: r) pd
def markN : List Nat → Prop → Prop
  | [], q => q
  | _ :: _, _ => False

def vcCode (X : Ctx) : Option Nat → Code → Ann → QT → Fr → Heap → Prop
  | _, .skip, _, Q, fr, H => Q .normal fr [] H
  | _, .region _ ops d, .reg, Q, fr, H => vcRegion X ops d (fun fr' H' => Q .normal fr' [] H') fr H
  | _, .region _ ops d, .regJ L, Q, fr, H => joinK L (opDsts ops.toList) fr (fun fr' H' => Q .normal fr' [] H') fun J => vcRegion X ops d J fr H
  | ro, .seq a b, .seq x y, Q, fr, H => vcCode X ro a x (fun e fr' M H' => match e with | .normal => vcCode X ro b y (fun e' fr'' M' H'' => Q e' fr'' (M' ++ M) H'') fr' H' | e => Q e fr' M H') fr H
  | ro, .cond c a b, .cond x y, Q, fr, H => (match evG #[] fr [] none c with
    | some (.bool t) => (t = true → vcCode X ro a x Q fr H) ∧ (t = false → vcCode X ro b y Q fr H)
    | _ => False)
  | ro, .cond c a b, .condJ L x y, Q, fr, H => (match evG #[] fr [] none c with
    | some (.bool t) => joinK L (dsts a ++ dsts b) fr (fun fr' H' => Q .normal fr' [] H') fun J =>
        (t = true → vcCode X ro a x (fun e fr' M H' => match e with | .normal => markN M (J fr' H') | e => Q e fr' M H') fr H) ∧ (t = false → vcCode X ro b y (fun e fr' M H' => match e with | .normal => markN M (J fr' H') | e => Q e fr' M H') fr H)
    | _ => False)
  | ro, .block id a, .blk x, Q, fr, H => vcCode X ro a x (fun e fr' M H' => match e with | .exit i => if i = id then Q .normal fr' M H' else Q (.exit i) fr' M H' | e => Q e fr' M H') fr H
  | ro, .block id a, .blkJ L x, Q, fr, H => joinK L (dsts a) fr (fun fr' H' => Q .normal fr' [] H') fun J => vcCode X ro a x (fun e fr' M H' => match e with | .exit i => if i = id then markN M (J fr' H') else Q (.exit i) fr' M H' | .normal => markN M (J fr' H') | e => Q e fr' M H') fr H
  | ro, .loop a, .loop L x, Q, fr, H => if liveOk L fr.length = false then False else ∃ I : JT (Heap → Prop) L, ∃ μ : JT (Heap → Nat) L, holdsJ L I fr H ∧
      allJ L (kill (dsts a) fr) fun fr' => ∀ H', holdsJ L I fr' H' → vcCode X ro a x (fun e fr'' M H'' => match e with | .normal => markN M (holdsJ L I fr'' H'' ∧ natJ L μ fr'' H'' < natJ L μ fr' H') | e => Q e fr'' M H'') fr' H'
  | none, .rangeFunc g ps a b, .rng shs js x y, Q, fr, H => (match evG #[] fr [] none g with
    | some (.func (.func gf) ⟨[]⟩ ⟨cap⟩) => if Nat.beq shs.length ps.toList.length = false then False else
        memN gf X.calls = true ∧ ∀ R : Loop, R.state = .ready → R.pending = none →
          (∀ (vs : List Value) (H1 : Heap) (K1 : Value → Heap → Prop),
            (exShs shs fun us => vs = us ∧ H1[H.size + 1]? = some (.loop R) ∧ vcCode X (some (H.size + 1)) a x (fun e f1 M H2 => match e with
              | .normal => markN M (H2[H.size + 1]? = some (.loop R) ∧ ∀ H2' : Heap, H2' = setLoop H2 (H.size + 1) { R with state := .busy } → vcCode X (some (H.size + 1)) b y (fun e' _ M2 H3 => markN M2 (H3[H.size + 1]? = some (.loop { R with state := .busy }) ∧ roundEnd (H.size + 1) R K1 e' H3)) f1 H2')
              | _ => False) (putArgs fr ps.toList us) H1) → YieldF X.P (H.size + 1) vs H1 K1) →
          CallF X.P gf ⟨.func (.yield (H.size + 1)) #[] #[] :: cap⟩ ((H.push (.deferred (some []))).push (.loop R)) fun _ H2 => ∃ (st : LoopState) (pd : Option Code), st ≠ .busy ∧ H2[H.size + 1]? = some (.loop { R with state := st, pending := pd }) ∧
            ∀ H2' : Heap, H2' = setLoop H2 (H.size + 1) { R with state := .exhausted, pending := pd } → jumpK (fun e => Q e fr [H.size] H2') js pd
    | _ => False)
  | _, .exit id, _, Q, fr, H => Q (.exit id) fr [] H
  | _, .ret, _, Q, fr, H => Q .ret fr [] H
  | _, _, _, _, _, _ => False

theorem markN_iff {M : List Nat} {q : Prop} : markN M q ↔ M = [] ∧ q := by cases M <;> simp [markN]

theorem opDsts_mem : ∀ (l : List Oper) (o : Oper) (d : Tmp), o ∈ l → o.dst = some d → d ∈ opDsts l
  | [], _, _, h, _ => by cases h
  | x :: r, o, d, h, hd => by
    simp only [opDsts]
    rcases List.mem_cons.1 h with rfl | h
    · rw [hd]; exact List.mem_cons_self
    · have := opDsts_mem r o d h hd
      split
      · exact List.mem_cons_of_mem _ this
      · exact this

/-- What code leaves of a frame. -/
structure Keep (ds : List Nat) (a a' : Act) : Prop where
  defers : a'.defers = a.defers
  size : a'.tmps.size = a.tmps.size
  same : ∀ t, t ∉ ds → a'.tmps[t]? = a.tmps[t]?

theorem Keep.refl (ds : List Nat) (a : Act) : Keep ds a a := ⟨rfl, rfl, fun _ _ => rfl⟩
theorem Keep.trans {ds : List Nat} {a b c : Act} (h : Keep ds a b) (k : Keep ds b c) : Keep ds a c :=
  ⟨k.defers.trans h.defers, k.size.trans h.size, fun t ht => (k.same t ht).trans (h.same t ht)⟩
theorem Keep.mono {ds ds' : List Nat} {a b : Act} (h : Keep ds a b) (hs : ∀ t ∈ ds, t ∈ ds') : Keep ds' a b :=
  ⟨h.defers, h.size, fun t ht => h.same t (fun hm => ht (hs t hm))⟩
theorem Keep.put {ds : List Nat} {a b : Act} (h : Keep ds a b) {d : Option Tmp} (hd : ∀ t, d = some t → t ∈ ds) (v : Value) : Keep ds a (b.put d v) := by
  cases d with
  | none => exact h
  | some t =>
    refine ⟨h.defers, ?_, fun u hu => ?_⟩
    · rw [put_tmps, Array.size_setIfInBounds]; exact h.size
    · rw [put_tmps, Array.getElem?_setIfInBounds, if_neg (fun e => hu (by rw [← e]; exact hd t rfl))]; exact h.same u hu

theorem kill_length (ds : List Nat) (fr : Fr) : (kill ds fr).length = fr.length := by
  unfold kill
  induction ds generalizing fr with
  | nil => rfl
  | cons d r ih => simp only [List.foldl_cons]; rw [ih, lset_length]
theorem kill_get {ds : List Nat} : ∀ {fr : Fr} {t : Nat} {s : SV}, lget (kill ds fr) t = some s → s = .x ∨ (lget fr t = some s ∧ t ∉ ds) := by
  unfold kill
  induction ds with
  | nil => intro fr t s h; exact .inr ⟨h, by simp⟩
  | cons d r ih =>
    intro fr t s h
    simp only [List.foldl_cons] at h
    rcases ih h with h1 | ⟨h1, h2⟩
    · exact .inl h1
    · rw [lget_lset] at h1
      split at h1
      · cases h1; exact .inl rfl
      · rename_i hc
        by_cases hd : d = t
        · left
          have hlt : ¬ d < fr.length := fun h => hc ⟨hd, h⟩
          rw [lget_eq, List.getElem?_eq_none (by omega)] at h1
          cases h1
        · exact .inr ⟨h1, by simp [h2]; exact fun e => hd e.symm⟩

/-- A frame's slots that live on, in a frame that forgets what has been written. -/
theorem rel_join {fr fr' : Fr} {a a' : Act} {ds : List Nat} {L : Live} {vs : List Value} (R : Rel fr a) (K : Keep ds a a') (R' : Rel fr' a') (hg : getL fr' L = some vs) : Rel (setL L (kill ds fr) vs) a' := by
  have hlen : fr'.length = fr.length := by rw [← R'.size, K.size, R.size]
  refine ⟨by rw [setL_length, kill_length, K.size]; exact R.size, fun t v h => ?_, fun t j w v h => ?_⟩
  · rcases getL_get hg (kill ds fr) (fun t v h => by
        rw [kill_length, ← hlen]
        rw [lget_eq] at h; exact (List.getElem?_eq_some_iff.1 h).1) t v h with h1 | ⟨h1, _⟩
    · exact R'.pv _ _ h1
    · rcases kill_get h1 with h2 | ⟨h2, h3⟩
      · cases h2
      · rw [K.same t h3]; exact R.pv _ _ h2
  · have key : ∀ (L : Live) (f : Fr) (vs : List Value), (∀ t j w v, lget f t ≠ some (.g j w v)) → ∀ t j w v, lget (setL L f vs) t ≠ some (.g j w v) := by
      intro L
      induction L with
      | nil => intro f vs hf t j w v; cases vs <;> exact hf t j w v
      | cons x r ih =>
        intro f vs hf t j w v
        obtain ⟨u, s⟩ := x
        cases vs with
        | nil => exact hf t j w v
        | cons v' vs =>
          simp only [setL]
          refine ih _ vs (fun t j w v h => ?_) t j w v
          rw [lget_lset] at h
          split at h
          · cases h
          · exact hf t j w v h
    refine key L _ vs (fun t j w v h => ?_) t j w v h
    rcases kill_get h with h2 | ⟨h2, _⟩
    · cases h2
    · exact R.ng _ _ _ _ h2

def marks (M : List Nat) : List Deferred := M.map fun r => { target := .collected r, args := #[] }
/-- What code leaves of a frame, but for the marks of loops over functions. -/
structure KeepM (ds : List Nat) (M : List Nat) (a a' : Act) : Prop where
  defers : a'.defers = marks M ++ a.defers
  size : a'.tmps.size = a.tmps.size
  same : ∀ t, t ∉ ds → a'.tmps[t]? = a.tmps[t]?
theorem KeepM.of {ds : List Nat} {a a' : Act} (h : Keep ds a a') : KeepM ds [] a a' := ⟨h.defers, h.size, h.same⟩
theorem KeepM.keep {ds : List Nat} {a a' : Act} (h : KeepM ds [] a a') : Keep ds a a' := ⟨h.defers, h.size, h.same⟩
theorem KeepM.trans {ds M N : List Nat} {a b c : Act} (h : KeepM ds M a b) (k : KeepM ds N b c) : KeepM ds (N ++ M) a c :=
  ⟨by rw [k.defers, h.defers]; simp [marks], k.size.trans h.size, fun t ht => (k.same t ht).trans (h.same t ht)⟩
theorem KeepM.mono {ds ds' M : List Nat} {a b : Act} (h : KeepM ds M a b) (hs : ∀ t ∈ ds, t ∈ ds') : KeepM ds' M a b :=
  ⟨h.defers, h.size, fun t ht => h.same t (fun hm => ht (hs t hm))⟩

/-- What is asked at an exit. -/
def Out (w0 : World) (a0 : Act) (ds : List Nat) (Q : QT) : Exit → Act → World → Prop
  | e, a, w => Rest w0 w ∧ ∃ M, KeepM ds M a0 a ∧ match e with
    | .normal => ∃ fr, Rel fr a ∧ Q .normal fr M w.heap
    | .exit i => ∃ fr, Rel fr a ∧ Q (.exit i) fr M w.heap
    | .ret => ∃ fr, Rel fr a ∧ Q .ret fr M w.heap
    | _ => False

theorem region_sound {X : Ctx} (hm : X.P.follows .mixedOrders = true) (hX : ∀ f, memN f X.calls = true → Bodied X.P f) {id : Nat} {ops : Array Oper} {d : Bool} {K : Fr → Heap → Prop} {fr : Fr} {w0 w : World} {a : Act} {ro : Option Nat}
    (R : Rel fr a) (hr : Rest w0 w) (h : vcRegion X ops d K fr w.heap) : (Code.region id ops d).wpIn (FR ro) 0 X.P (fun e a' w' => Rest w0 w' ∧ Keep (opDsts ops.toList) a a' ∧ e = .normal ∧ ∃ fr', Rel fr' a' ∧ K fr' w'.heap) a w := by
  have hInv : ∀ (b : Act) (o : Oper) (v : Value), o ∈ ops.toList → Keep (opDsts ops.toList) a b → Keep (opDsts ops.toList) a (b.put o.dst v) :=
    fun b o v ho hk => hk.put (fun t ht => opDsts_mem _ o t ho ht) v
  cases d with
  | false =>
    refine wpIn_region_list ?_
    exact seq_sound (Inv := Keep (opDsts ops.toList) a) hX hInv (fun fr' a' w' h1 h2 h3 h4 => ⟨h1, h4, rfl, fr', h2, h3⟩) ops.toList [] [] fr a w (fun _ h => h) (Keep.refl _ _) (rel_start R) hr h
  | true =>
    simp only [vcRegion] at h
    obtain ⟨hs, h⟩ := if_false_or h
    refine wpIn_region_any hm ?_
    have hr' : Rest w0 { heap := w.heap, tape := w.tape, drawn := w.drawn + 1, os := w.os, output := w.output } := hr.trans ⟨rfl, rfl, rfl⟩
    refine wpAny_of_H (w0 := w0) (isW := isWB X ops) (bf := bfB (bfGo ops.toList [])) (Q := fun a' H' => (∃ fr', Rel fr' a' ∧ K fr' H') ∧ Keep (opDsts ops.toList) a a') (fun a' w' h1 h2 => ?_) _ [] _ _ _ hr' ?_
    · exact ⟨h1, h2.2, rfl, h2.1⟩
    · refine draw_sound hX (by simpa using hs) hInv _ _ [] [] [] fr _ a ?_ (fun x hx => by cases hx) (rel_start R) (Keep.refl _ _) h
      intro j oj hj hl
      exfalso
      rcases Nat.lt_or_ge j ops.size with h' | h'
      · simp [h'] at hl
      · simp [Array.getElem?_eq_none h'] at hj

theorem join_sound {L : Live} {ds : List Nat} {fr : Fr} {rest : Fr → Heap → Prop} {body : (Fr → Heap → Prop) → Prop} (h : joinK L ds fr rest body) :
    ∃ J : Fr → Heap → Prop, body J ∧ ∀ fr' H, J fr' H → ∃ vs, getL fr' L = some vs ∧ rest (setL L (kill ds fr) vs) H := by
  unfold joinK at h
  obtain ⟨hok, h⟩ := if_false_or h
  have hok' : liveOk L (kill ds fr).length = true := by rw [kill_length]; simpa using hok
  refine ⟨_, h (lamJ L fun vs => rest (setL L (kill ds fr) vs)) ?_, fun fr' H hj => ?_⟩
  · rw [allJ_iff]
    intro vs hvs H' hrest
    unfold holdsJ
    rw [appJ_of_get L _ _ vs (getL_set L _ vs hok' hvs), appV_lam L _ vs hvs]
    exact hrest
  · unfold holdsJ at hj
    cases ha : appJ L (lamJ L fun vs => rest (setL L (kill ds fr) vs)) fr' with
    | none => rw [ha] at hj; exact hj.elim
    | some p =>
      rw [ha] at hj
      obtain ⟨vs, h1, h2, h3⟩ := appJ_get L _ fr' p ha
      rw [appV_lam L _ vs h3] at h2
      cases h2
      exact ⟨vs, h1, hj⟩

/-- All that an act holds. -/
def frOf (a : Act) : Fr := a.tmps.toList.map .p
theorem getL_frOf : ∀ {L : Live} {fr : Fr} {a : Act} {vs : List Value}, Rel fr a → getL fr L = some vs → getL (frOf a) L = some vs
  | [], _, _, _, _, h => h
  | (t, s) :: r, fr, a, vs, R, h => by
    simp only [getL] at h ⊢
    cases hg : getP fr t with
    | none => simp [hg] at h
    | some v => cases hr : getL fr r with
      | none => simp [hg, hr] at h
      | some vs' =>
        simp only [hg, hr, Option.some.injEq] at h
        subst h
        have hgu : lget fr t = some (.p v) := by
          unfold getP at hg
          split at hg
          · rename_i w hw; cases hg; exact hw
          · cases hg
        have ht := R.pv _ _ hgu
        have : getP (frOf a) t = some v := by
          unfold getP frOf
          rw [lget_map, lget_eq, Array.getElem?_toList, ht]; rfl
        rw [this, getL_frOf R hr]

theorem exShs_len : ∀ {ss : List Sh} {Q : List Value → Prop}, exShs ss Q → ∃ vs, vs.length = ss.length ∧ Q vs
  | [], _, h => ⟨[], rfl, h⟩
  | s :: r, Q, h => by
    simp only [exShs] at h
    obtain ⟨v, hv⟩ := sh_ex h
    obtain ⟨vs, h1, h2⟩ := exShs_len (ss := r) hv
    exact ⟨v :: vs, by simp [h1], h2⟩
theorem rel_args : ∀ (ps : List Tmp) (vs : List Value) (fr : Fr) (a : Act), Rel fr a → Rel (putArgs fr ps vs) { tmps := (ps.zip vs).foldl (fun t p => t.setIfInBounds p.1 p.2) a.tmps, defers := [] }
  | [], vs, fr, a, R => ⟨R.size, R.pv, R.ng⟩
  | t :: ps, [], fr, a, R => ⟨R.size, R.pv, R.ng⟩
  | t :: ps, v :: vs, fr, a, R => by
    simp only [putArgs, List.zip_cons_cons, List.foldl_cons]
    refine rel_args ps vs (lset fr t (.p v)) { tmps := a.tmps.setIfInBounds t v, defers := [] } ⟨by simp [lset_length, R.size], fun u x h => ?_, fun u j w x h => ?_⟩
    · rw [lget_lset] at h
      split at h
      · rename_i hc
        obtain ⟨rfl, hlt⟩ := hc
        cases h
        rw [Array.getElem?_setIfInBounds, if_pos rfl, if_pos (by rw [R.size]; exact hlt)]
      · rename_i hc
        have h2 := R.pv u x h
        by_cases e : t = u
        · subst e
          exfalso
          exact hc ⟨rfl, by rw [lget_eq] at h; exact (List.getElem?_eq_some_iff.1 h).1⟩
        · rw [Array.getElem?_setIfInBounds, if_neg e]; exact h2
    · rw [lget_lset] at h
      split at h
      · cases h
      · exact R.ng _ _ _ _ h

/-- **Code.** -/
theorem code_sound {X : Ctx} (hm : X.P.follows .mixedOrders = true) (hX : ∀ f, memN f X.calls = true → Bodied X.P f) : ∀ (c : Code) (w0 : World) (ro : Option Nat) (an : Ann) (Q : QT) (fr : Fr) (a : Act) (w : World),
    Rel fr a → Rest w0 w → vcCode X ro c an Q fr w.heap → c.wpIn (FR ro) 0 X.P (Out w0 a (dsts c) Q) a w := by
  intro c
  induction c with
  | skip => intro w0 ro an Q fr a w R hr h; cases an <;> exact wpIn_skip ⟨hr, [], .of (Keep.refl _ _), fr, R, h⟩
  | exit id => intro w0 ro an Q fr a w R hr h; cases an <;> cases ro <;> exact wpIn_exit ⟨hr, [], .of (Keep.refl _ _), fr, R, h⟩
  | ret => intro w0 ro an Q fr a w R hr h; cases an <;> cases ro <;> exact wpIn_ret ⟨hr, [], .of (Keep.refl _ _), fr, R, h⟩
  | region id ops d =>
    intro w0 ro an Q fr a w R hr h
    cases an with
    | reg =>
      refine wpIn_mono (region_sound (ro := ro) hm hX R hr (K := fun fr' H' => Q .normal fr' [] H') (by cases ro <;> exact h)) (fun e a' w' hq => ?_)
      obtain ⟨h1, h2, rfl, h3⟩ := hq
      exact ⟨h1, [], .of h2, h3⟩
    | regJ L =>
      have h : joinK L (opDsts ops.toList) fr (fun fr' H' => Q .normal fr' [] H') fun J => vcRegion X ops d J fr w.heap := by cases ro <;> exact h
      obtain ⟨J, h1, h2⟩ := join_sound h
      refine wpIn_mono (region_sound (ro := ro) hm hX R hr h1) (fun e a' w' hq => ?_)
      obtain ⟨h3, h4, rfl, fr', h5, h6⟩ := hq
      obtain ⟨vs, h7, h8⟩ := h2 _ _ h6
      exact ⟨h3, [], .of h4, _, rel_join R h4 h5 h7, h8⟩
    | _ => cases ro <;> exact h.elim
  | seq x y ihx ihy =>
    intro w0 ro an Q fr a w R hr h
    cases an with
    | seq ax ay =>
      have h : vcCode X ro x ax (fun e fr' M H' => match e with | .normal => vcCode X ro y ay (fun e' fr'' M' H'' => Q e' fr'' (M' ++ M) H'') fr' H' | e => Q e fr' M H') fr w.heap := by cases ro <;> exact h
      refine wpIn_seq (wpIn_mono (ihx w0 ro ax _ fr a w R hr h) (fun e a' w' hq => ?_))
      obtain ⟨h1, M, h2, h3⟩ := hq
      have k1 : KeepM (dsts (.seq x y)) M a a' := h2.mono (fun t ht => List.mem_append_left _ ht)
      cases e with
      | normal =>
        obtain ⟨fr', h4, h5⟩ := h3
        refine wpIn_mono (ihy w0 ro ay _ fr' a' w' h4 h1 h5) (fun e' a'' w'' hq' => ?_)
        obtain ⟨h6, M', h7, h8⟩ := hq'
        exact ⟨h6, M' ++ M, k1.trans (h7.mono (fun t ht => List.mem_append_right _ ht)), h8⟩
      | exit i => exact ⟨h1, M, k1, h3⟩
      | ret => exact ⟨h1, M, k1, h3⟩
      | _ => exact h3.elim
    | _ => cases ro <;> exact h.elim
  | cond c x y ihx ihy =>
    intro w0 ro an Q fr a w R hr h
    have split : ∀ (Q1 : QT) (ax ay : Ann) (t : Bool), evG #[] fr [] none c = some (.bool t) → (t = true → vcCode X ro x ax Q1 fr w.heap) → (t = false → vcCode X ro y ay Q1 fr w.heap) →
        (Code.cond c x y).wpIn (FR ro) 0 X.P (Out w0 a (dsts (.cond c x y)) Q1) a w := by
      intro Q1 ax ay t ht h1 h2
      have hc : a.eval c = .bool t := evG_spec (rel_start (ops := #[]) R) c _ ht trivial
      refine wpIn_cond_split hc (fun hb => ?_) (fun hb => ?_)
      · refine wpIn_mono (ihx w0 ro ax Q1 fr a w R hr (h1 hb)) (fun e a' w' hq => ?_)
        obtain ⟨q1, M, q2, q3⟩ := hq
        exact ⟨q1, M, q2.mono (fun t ht => List.mem_append_left _ ht), q3⟩
      · refine wpIn_mono (ihy w0 ro ay Q1 fr a w R hr (h2 hb)) (fun e a' w' hq => ?_)
        obtain ⟨q1, M, q2, q3⟩ := hq
        exact ⟨q1, M, q2.mono (fun t ht => List.mem_append_right _ ht), q3⟩
    cases an with
    | cond ax ay =>
      simp only [vcCode] at h
      cases he : evG #[] fr [] none c with
      | none => simp [he] at h
      | some v =>
        cases v <;> simp only [he] at h <;> try exact h.elim
        exact split Q ax ay _ he h.1 h.2
    | condJ L ax ay =>
      simp only [vcCode] at h
      cases he : evG #[] fr [] none c with
      | none => simp [he] at h
      | some v =>
        cases v <;> simp only [he] at h <;> try exact h.elim
        obtain ⟨J, h1, h2⟩ := join_sound h
        refine wpIn_mono (split _ ax ay _ he h1.1 h1.2) (fun e a' w' hq => ?_)
        obtain ⟨h3, M, h4, h5⟩ := hq
        cases e <;> simp only at h5
        case normal =>
          obtain ⟨fr', h6, h7⟩ := h5
          obtain ⟨rfl, h7⟩ := markN_iff.1 h7
          obtain ⟨vs, h8, h9⟩ := h2 _ _ h7
          exact ⟨h3, [], h4, _, rel_join R h4.keep h6 h8, h9⟩
        case exit i => exact ⟨h3, M, h4, h5⟩
        case ret => exact ⟨h3, M, h4, h5⟩
    | _ => cases ro <;> exact h.elim
  | block id x ih =>
    intro w0 ro an Q fr a w R hr h
    cases an with
    | blk ax =>
      have h : vcCode X ro x ax (fun e fr' M H' => match e with | .exit i => if i = id then Q .normal fr' M H' else Q (.exit i) fr' M H' | e => Q e fr' M H') fr w.heap := by cases ro <;> exact h
      refine wpIn_block (wpIn_mono (ih w0 ro ax _ fr a w R hr h) (fun e a' w' hq => ?_))
      obtain ⟨h1, M, h2, h3⟩ := hq
      cases e with
      | normal => exact ⟨h1, M, h2, h3⟩
      | exit i =>
        obtain ⟨fr', h4, h5⟩ := h3
        simp only [Exit.inBlock]
        by_cases hi : i = id
        · simp only [hi, if_true] at h5 ⊢
          exact ⟨h1, M, h2, fr', h4, h5⟩
        · simp only [hi, if_false] at h5 ⊢
          exact ⟨h1, M, h2, fr', h4, h5⟩
      | ret => exact ⟨h1, M, h2, h3⟩
      | _ => exact h3.elim
    | blkJ L ax =>
      have h : joinK L (dsts x) fr (fun fr' H' => Q .normal fr' [] H') fun J => vcCode X ro x ax (fun e fr' M H' => match e with | .exit i => if i = id then markN M (J fr' H') else Q (.exit i) fr' M H' | .normal => markN M (J fr' H') | e => Q e fr' M H') fr w.heap := by cases ro <;> exact h
      obtain ⟨J, hb, hj⟩ := join_sound h
      refine wpIn_block (wpIn_mono (ih w0 ro ax _ fr a w R hr hb) (fun e a' w' hq => ?_))
      obtain ⟨h1, M, h2, h3⟩ := hq
      cases e with
      | normal =>
        obtain ⟨fr', h4, h5⟩ := h3
        obtain ⟨rfl, h5⟩ := markN_iff.1 h5
        obtain ⟨vs, h6, h7⟩ := hj _ _ h5
        exact ⟨h1, [], h2, _, rel_join R h2.keep h4 h6, h7⟩
      | exit i =>
        obtain ⟨fr', h4, h5⟩ := h3
        simp only [Exit.inBlock]
        by_cases hi : i = id
        · simp only [hi, if_true] at h5 ⊢
          obtain ⟨rfl, h5⟩ := markN_iff.1 h5
          obtain ⟨vs, h6, h7⟩ := hj _ _ h5
          exact ⟨h1, [], h2, _, rel_join R h2.keep h4 h6, h7⟩
        · simp only [hi, if_false] at h5 ⊢
          exact ⟨h1, M, h2, fr', h4, h5⟩
      | ret => exact ⟨h1, M, h2, h3⟩
      | _ => exact h3.elim
    | _ => cases ro <;> exact h.elim
  | loop x ih =>
    intro w0 ro an Q fr a w R hr h
    cases an with
    | loop L ax =>
      have h : (if liveOk L fr.length = false then False else ∃ I : JT (Heap → Prop) L, ∃ μ : JT (Heap → Nat) L, holdsJ L I fr w.heap ∧
        allJ L (kill (dsts x) fr) fun fr' => ∀ H', holdsJ L I fr' H' → vcCode X ro x ax (fun e fr'' M H'' => match e with | .normal => markN M (holdsJ L I fr'' H'' ∧ natJ L μ fr'' H'' < natJ L μ fr' H') | e => Q e fr'' M H'') fr' H') := by cases ro <;> exact h
      obtain ⟨hok, I, μ, h0, hround⟩ := if_false_or h
      have hok' : liveOk L (kill (dsts x) fr).length = true := by rw [kill_length]; simpa using hok
      rw [allJ_iff] at hround
      have hfr : ∀ (fr' : Fr) (H : Heap), holdsJ L I fr' H → ∃ vs, getL fr' L = some vs ∧ fitsL L vs = true ∧ holdsJ L I (setL L (kill (dsts x) fr) vs) H ∧ ∀ H'', natJ L μ (setL L (kill (dsts x) fr) vs) H'' = natJ L μ fr' H'' := by
        intro fr' H hh
        have hh0 := hh
        unfold holdsJ at hh
        cases ha : appJ L I fr' with
        | none => rw [ha] at hh; exact hh.elim
        | some p =>
          obtain ⟨vs, h1, h2, h3⟩ := appJ_get L _ fr' p ha
          refine ⟨vs, h1, h3, ?_, fun H'' => ?_⟩
          · unfold holdsJ
            rw [appJ_of_get L _ _ vs (getL_set L _ vs hok' h3), h2]
            rw [ha] at hh; exact hh
          · unfold natJ
            rw [appJ_of_get L _ _ vs (getL_set L _ vs hok' h3), appJ_of_get L _ _ vs h1]
      have hmu : ∀ (fr' : Fr) (a' : Act) (vs : List Value) (H : Heap), Rel fr' a' → getL fr' L = some vs → natJ L μ (frOf a') H = natJ L μ fr' H := by
        intro fr' a' vs H R' hg
        unfold natJ
        rw [appJ_of_get L _ _ vs (getL_frOf R' hg), appJ_of_get L _ _ vs hg]
      refine wpIn_loop (fun a' w' => Rest w0 w' ∧ Keep (dsts x) a a' ∧ ∃ vs, fitsL L vs = true ∧ Rel (setL L (kill (dsts x) fr) vs) a' ∧ holdsJ L I (setL L (kill (dsts x) fr) vs) w'.heap)
        (fun a' w' => natJ L μ (frOf a') w'.heap) ?_ ?_
      · obtain ⟨vs, h1, h2, h3, _⟩ := hfr _ _ h0
        exact ⟨hr, Keep.refl _ _, vs, h2, rel_join R (Keep.refl _ _) R h1, h3⟩
      · rintro a' w' ⟨h1, h2, vs, h3, h4, h5⟩
        refine wpIn_mono (ih w0 ro ax _ _ a' w' h4 h1 (hround vs h3 w'.heap h5)) (fun e a'' w'' hq => ?_)
        obtain ⟨h6, M, h7, h8⟩ := hq
        cases e with
        | normal =>
          obtain ⟨fr'', h9, h10⟩ := h8
          obtain ⟨rfl, h10, h11⟩ := markN_iff.1 h10
          have k2 := h2.trans h7.keep
          obtain ⟨vs', h12, h13, h14, h15⟩ := hfr _ _ h10
          have h16 := rel_join R k2 h9 h12
          refine ⟨⟨h6, k2, vs', h13, h16, h14⟩, ?_⟩
          rw [hmu _ _ _ _ h9 h12, hmu _ _ _ _ h4 (getL_set L _ vs hok' h3)]
          exact h11
        | exit i => exact ⟨h6, M, by have := (KeepM.of h2).trans h7; rwa [List.append_nil] at this, h8⟩
        | ret => exact ⟨h6, M, by have := (KeepM.of h2).trans h7; rwa [List.append_nil] at this, h8⟩
        | _ => exact h8.elim
    | _ => cases ro <;> exact h.elim
  | rangeFunc g ps x y ihx ihy =>
    intro w0 ro an Q fr a w R hr h
    cases ro with
    | some l0 => cases an <;> exact h.elim
    | none =>
      cases an with
      | rng shs js ax ay =>
        simp only [vcCode] at h
        split at h
        case h_2 => exact h.elim
        rename_i gf cap hg
        obtain ⟨hlen, hmem, h⟩ := if_false_or h
        have hlen : shs.length = ps.size := by
          have : Nat.beq shs.length ps.toList.length = true := by simpa using hlen
          have := Nat.eq_of_beq_eq_true this
          simpa using this
        have hge : a.eval g = .func (.func gf) #[] ⟨cap⟩ := evG_spec (rel_start (ops := #[]) R) g _ hg trivial
        show (Code.rangeFunc g ps x y).wpIn Fence.wide 0 X.P _ a w
        refine wpIn_rangeFunc ?_
        intro fn _
        have hcall := h { state := .ready, pending := none, fn := fn, tmps := a.tmps, params := ps, assign := x, body := y, defers := w.heap.size } rfl rfl ?_
        · refine ⟨w.heap.size + 1, marks [w.heap.size], (w.alloc (.deferred (some []))).alloc (.loop { state := .ready, pending := none, fn := fn, tmps := a.tmps, params := ps, assign := x, body := y, defers := w.heap.size }),
            { target := .fn (.func gf) ⟨cap⟩, args := #[.func (.yield (w.heap.size + 1)) #[] #[]] }, ((w.alloc (.deferred (some []))).alloc (.loop { state := .ready, pending := none, fn := fn, tmps := a.tmps, params := ps, assign := x, body := y, defers := w.heap.size })), gf, #[.func (.yield (w.heap.size + 1)) #[] #[]] ++ ⟨cap⟩, ((w.alloc (.deferred (some []))).alloc (.loop { state := .ready, pending := none, fn := fn, tmps := a.tmps, params := ps, assign := x, body := y, defers := w.heap.size })), run_enterLoop_outer _ _ _ _ _, ?_, fun _ _ => trivial, ?_, fun hd => (by cases hd), ?_⟩
          · simp only [resolve, hge]
            simp [go_sem]
          · simp only [invoke]
            rw [run_callFunc (hX gf hmem)]
          · refine callsIn_wide.2 ?_
            have e1 : (#[.func (.yield (w.heap.size + 1)) #[] #[]] ++ ⟨cap⟩ : Array Value) = ⟨.func (.yield (w.heap.size + 1)) #[] #[] :: cap⟩ := by apply Array.ext'; simp
            rw [e1]
            refine (hcall ((w.alloc (.deferred (some []))).alloc (.loop { state := .ready, pending := none, fn := fn, tmps := a.tmps, params := ps, assign := x, body := y, defers := w.heap.size })) rfl).mono fun e w3 he => ?_
            cases e <;> simp only [Fin] at he
            obtain ⟨hr3, st, pd, hst, hl3, hj⟩ := he
            refine ⟨pd, _, run_endLoop hl3 hst, ?_⟩
            have hr4 : Rest w0 (w3.putObj (w.heap.size + 1) (.loop { state := .exhausted, pending := pd, fn := fn, tmps := a.tmps, params := ps, assign := x, body := y, defers := w.heap.size })) :=
              (hr.trans (Rest.trans (b := (w.alloc (.deferred (some []))).alloc (.loop { state := .ready, pending := none, fn := fn, tmps := a.tmps, params := ps, assign := x, body := y, defers := w.heap.size })) ⟨rfl, rfl, rfl⟩ hr3)).trans ⟨rfl, rfl, rfl⟩
            have hk : KeepM (dsts (.rangeFunc g ps x y)) [w.heap.size] a { a with defers := marks [w.heap.size] ++ a.defers } := ⟨rfl, rfl, fun _ _ => rfl⟩
            have hR : Rel fr { a with defers := marks [w.heap.size] ++ a.defers } := ⟨R.size, R.pv, R.ng⟩
            have hjq : ∀ (js : List (Option Code)) (pd : Option Code) (Q1 : Exit → Prop), jumpK Q1 js pd → jumpQ Q1 pd := by
              intro js
              induction js with
              | nil => intro pd Q1 h; exact h.elim
              | cons c r ih =>
                intro pd Q1 h
                cases r with
                | nil => obtain ⟨rfl, h⟩ := h; exact h
                | cons d r =>
                  rcases h with ⟨rfl, h⟩ | h
                  · exact h
                  · exact ih pd Q1 h
            have hj2 := hjq _ _ _ (hj _ rfl)
            cases pd with
            | none => exact ⟨hr4, [w.heap.size], hk, fr, hR, hj2⟩
            | some c =>
              cases c <;> simp only [jumpQ] at hj2
              · rename_i i
                exact wpIn_exit ⟨hr4, [w.heap.size], hk, fr, hR, hj2⟩
              · exact wpIn_ret ⟨hr4, [w.heap.size], hk, fr, hR, hj2⟩
        · intro vs H1 K1 hround w1 hw1
          subst hw1
          obtain ⟨us, hul, rfl, hl1, hx⟩ := exShs_len hround
          refine ⟨fn, _, x, y, run_yield hl1 (by simp [hul, hlen]), roundIn_of_wpIn trivial ?_⟩
          have hz : (ps.zip ⟨vs⟩).foldl (fun tmps (t, a) => tmps.setIfInBounds t a) a.tmps = (ps.toList.zip vs).foldl (fun t p => t.setIfInBounds p.1 p.2) a.tmps := by
            rw [← Array.foldl_toList, Array.toList_zip]
          refine wpIn_mono (ihx w1 (some (w.heap.size + 1)) ax _ _ _ w1 (by have := rel_args ps.toList vs fr a R; rw [← hz] at this; exact this) (Rest.refl w1) hx) (fun e a1 w2 hq => ?_)
          obtain ⟨hr2, M, hk2, h3⟩ := hq
          cases e with
          | normal =>
            obtain ⟨fr1, hR1, h3⟩ := h3
            obtain ⟨rfl, hl2, hy⟩ := markN_iff.1 h3
            refine ⟨_, run_beginRound hl2 rfl, ?_⟩
            have hd1 : a1.defers = [] := hk2.defers
            refine wpIn_mono (ihy w1 (some (w.heap.size + 1)) ay _ fr1 a1 _ hR1 (hr2.trans ⟨rfl, rfl, rfl⟩) (hy _ rfl)) (fun e' a2 w3 hq => ?_)
            obtain ⟨hr3, M2, hk3, h4⟩ := hq
            cases e' with
            | normal =>
              obtain ⟨fr2, hR2, h4⟩ := h4
              obtain ⟨rfl, hl3, h5⟩ := markN_iff.1 h4
              exact ⟨_, _, run_endRound none hl3, hr3.trans ⟨rfl, rfl, rfl⟩, h5⟩
            | exit i =>
              obtain ⟨fr2, hR2, h4⟩ := h4
              obtain ⟨rfl, hl3, h5⟩ := markN_iff.1 h4
              exact ⟨_, _, run_endRound (some (.exit i)) hl3, hr3.trans ⟨rfl, rfl, rfl⟩, h5⟩
            | ret =>
              obtain ⟨fr2, hR2, h4⟩ := h4
              obtain ⟨rfl, hl3, h5⟩ := markN_iff.1 h4
              exact ⟨_, _, run_endRound (some .ret) hl3, hr3.trans ⟨rfl, rfl, rfl⟩, h5⟩
            | _ => exact h4.elim
          | exit i => obtain ⟨fr1, hR1, h3⟩ := h3; exact h3.elim
          | ret => obtain ⟨fr1, hR1, h3⟩ := h3; exact h3.elim
          | _ => exact h3.elim
      | _ => exact h.elim
  | scope x => intro w0 ro an Q fr a w R hr h; cases ro <;> exact h.elim
  | label l => intro w0 ro an Q fr a w R hr h; cases ro <;> exact h.elim
  | goto l => intro w0 ro an Q fr a w R hr h; cases ro <;> exact h.elim
  | refuse s => intro w0 ro an Q fr a w R hr h; cases ro <;> exact h.elim
end Go.Nm
