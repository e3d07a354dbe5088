/-
  Maps of the program's own.
-/
import Derived.Test.YtomdcdfcdeaabaaGreatSA
import Derived.MapKept
set_option linter.unusedVariables false
set_option linter.unusedSimpArgs false
namespace Go.Nm
open Go

theorem map_eraseIdx' {α β : Type} (f : α → β) : ∀ (l : List α) (i : Nat), (l.eraseIdx i).map f = (l.map f).eraseIdx i
  | [], _ => rfl
  | a :: r, 0 => rfl
  | a :: r, i + 1 => by simp only [List.eraseIdx_cons_succ, List.map_cons]; rw [map_eraseIdx' f r i]

/-! ### plain: rows of keys and values -/
section
variable {κ α : Type} [DecidableEq κ]
def mlook (x : κ) : List (κ × α) → Option α
  | [] => none
  | (y, v) :: r => if x = y then some v else mlook x r
def mdel (x : κ) (m : List (κ × α)) : List (κ × α) := m.filter fun p => decide (p.1 ≠ x)
def mset (x : κ) (v : α) (m : List (κ × α)) : List (κ × α) := (x, v) :: mdel x m
abbrev keysOf (m : List (κ × α)) : List κ := m.map Prod.fst

theorem mlook_some_mem {x : κ} {v : α} : ∀ {m : List (κ × α)}, mlook x m = some v → (x, v) ∈ m
  | [], h => by simp [mlook] at h
  | (y, u) :: r, h => by
    simp only [mlook] at h
    split at h
    · rename_i e; subst e; cases h; simp
    · exact List.mem_cons_of_mem _ (mlook_some_mem h)
theorem mlook_of_mem {x : κ} {v : α} : ∀ {m : List (κ × α)}, (keysOf m).Nodup → (x, v) ∈ m → mlook x m = some v
  | [], _, h => by simp at h
  | (y, u) :: r, hn, h => by
    simp only [keysOf, List.map_cons, List.nodup_cons] at hn
    simp only [mlook]
    rcases List.mem_cons.1 h with h1 | h1
    · cases h1; simp
    · rw [if_neg]
      · exact mlook_of_mem hn.2 h1
      · intro e
        exact hn.1 (List.mem_map.2 ⟨(x, v), h1, e⟩)
theorem mlook_none {x : κ} : ∀ {m : List (κ × α)}, mlook x m = none ↔ x ∉ keysOf m
  | [] => by simp [mlook]
  | (y, u) :: r => by
    simp only [mlook, keysOf, List.map_cons, List.mem_cons, not_or]
    split
    · rename_i e; simp [e]
    · rename_i e
      rw [mlook_none (m := r)]; simp [e]
theorem mlook_perm {x : κ} {m m' : List (κ × α)} (hn : (keysOf m).Nodup) (hp : m.Perm m') : mlook x m = mlook x m' := by
  have hn' : (keysOf m').Nodup := (hp.map Prod.fst).nodup_iff.1 hn
  cases h : mlook x m with
  | none =>
    rw [mlook_none] at h
    exact (mlook_none.2 fun h2 => h ((hp.map Prod.fst).mem_iff.2 h2)).symm
  | some v => exact (mlook_of_mem hn' (hp.mem_iff.1 (mlook_some_mem h))).symm
theorem mdel_perm {x : κ} {m m' : List (κ × α)} (hp : m.Perm m') : (mdel x m).Perm (mdel x m') := hp.filter _
theorem mem_mdel {x : κ} {p : κ × α} {m : List (κ × α)} : p ∈ mdel x m ↔ p ∈ m ∧ p.1 ≠ x := by simp [mdel]
theorem nodup_mdel {x : κ} {m : List (κ × α)} (hn : (keysOf m).Nodup) : (keysOf (mdel x m)).Nodup := hn.sublist (List.Sublist.map _ List.filter_sublist)
theorem nodup_mset {x : κ} {v : α} {m : List (κ × α)} (hn : (keysOf m).Nodup) : (keysOf (mset x v m)).Nodup := by
  simp only [keysOf, mset, List.map_cons, List.nodup_cons]
  refine ⟨fun h => ?_, nodup_mdel hn⟩
  obtain ⟨p, hp, e⟩ := List.mem_map.1 h
  exact (mem_mdel.1 hp).2 e
theorem mdel_of_none {x : κ} {m : List (κ × α)} (h : mlook x m = none) : mdel x m = m := by
  rw [mlook_none] at h
  unfold mdel
  rw [List.filter_eq_self]
  intro p hp
  simp only [decide_eq_true_eq]
  intro e; subst e
  exact h (List.mem_map.2 ⟨p, hp, rfl⟩)
theorem mlook_mdel_ne {x y : κ} (h : y ≠ x) : ∀ {m : List (κ × α)}, mlook y (mdel x m) = mlook y m
  | [] => rfl
  | (z, u) :: r => by
    have ih := mlook_mdel_ne h (m := r)
    simp only [mdel, List.filter_cons] at ih ⊢
    split
    · simp only [mlook]; split
      · rfl
      · exact ih
    · rename_i hz
      simp only [decide_eq_true_eq, ne_eq, Decidable.not_not] at hz
      simp only [mlook]
      rw [if_neg (by rw [hz]; exact h)]
      exact ih
theorem mlook_mdel_self {x : κ} {m : List (κ × α)} : mlook x (mdel x m) = none := by
  rw [mlook_none]
  intro h
  obtain ⟨p, hp, e⟩ := List.mem_map.1 h
  exact (mem_mdel.1 hp).2 e
theorem mlook_mset {x y : κ} {v : α} {m : List (κ × α)} : mlook y (mset x v m) = if y = x then some v else mlook y m := by
  simp only [mset, mlook]
  split
  · rfl
  · rename_i h; exact mlook_mdel_ne h
theorem mlook_mdel {x y : κ} {m : List (κ × α)} : mlook y (mdel x m) = if y = x then none else mlook y m := by
  split
  · rename_i h; subst h; exact mlook_mdel_self
  · rename_i h; exact mlook_mdel_ne h
theorem mset_perm {x : κ} {v : α} {m m' : List (κ × α)} (hp : m.Perm m') : (mset x v m).Perm (mset x v m') := (mdel_perm hp).cons _
theorem length_mset_new {x : κ} {v : α} {m : List (κ × α)} (h : mlook x m = none) : (mset x v m).length = m.length + 1 := by simp [mset, mdel_of_none h]
theorem length_mdel {x : κ} {v : α} : ∀ {m : List (κ × α)}, (keysOf m).Nodup → mlook x m = some v → (mdel x m).length + 1 = m.length
  | [], _, h => by simp [mlook] at h
  | (y, u) :: r, hn, h => by
    simp only [keysOf, List.map_cons, List.nodup_cons] at hn
    simp only [mlook] at h
    by_cases e : x = y
    · subst e
      have : mlook x r = none := mlook_none.2 hn.1
      have h2 := mdel_of_none this
      have h3 : mdel x ((x, u) :: r) = mdel x r := by simp [mdel, List.filter_cons]
      rw [h3, h2]; rfl
    · rw [if_neg e] at h
      have ih := length_mdel hn.2 h
      simp only [mdel, List.filter_cons] at ih ⊢
      rw [if_pos (by simpa using fun e2 => e e2.symm)]
      simp only [List.length_cons]
      omega
theorem length_mset_old {x : κ} {v u : α} {m : List (κ × α)} (hn : (keysOf m).Nodup) (h : mlook x m = some u) : (mset x v m).length = m.length := by
  have := length_mdel hn h
  simp only [mset, List.length_cons]; omega

theorem getElem?_of_mlook {x : κ} {v : α} {m : List (κ × α)} (h : mlook x m = some v) : ∃ i : Nat, m[i]? = some (x, v) ∧ ∀ j, j < i → (keysOf m)[j]? ≠ some x := by
  induction m with
  | nil => simp [mlook] at h
  | cons p r ih =>
    obtain ⟨y, u⟩ := p
    simp only [mlook] at h
    split at h
    · rename_i e; subst e; cases h
      exact ⟨0, rfl, fun j hj => absurd hj (by omega)⟩
    · rename_i e
      obtain ⟨i, h1, h2⟩ := ih h
      refine ⟨i + 1, by simpa using h1, fun j hj => ?_⟩
      cases j with
      | zero => simp [keysOf]; exact fun e2 => e e2.symm
      | succ j => simpa [keysOf] using h2 j (by omega)
theorem eraseIdx_perm_mdel {x : κ} {v : α} {m : List (κ × α)} (hn : (keysOf m).Nodup) {i : Nat} (hi : m[i]? = some (x, v)) : m.eraseIdx i = mdel x m := by
  induction m generalizing i with
  | nil => simp at hi
  | cons p r ih =>
    simp only [keysOf, List.map_cons, List.nodup_cons] at hn
    cases i with
    | zero =>
      simp at hi; subst hi
      have : mlook x r = none := mlook_none.2 hn.1
      have h2 := mdel_of_none this
      have h3 : mdel x ((x, v) :: r) = mdel x r := by simp [mdel, List.filter_cons]
      rw [h3, h2]; rfl
    | succ i =>
      simp only [List.getElem?_cons_succ] at hi
      have ih := ih hn.2 hi
      simp only [List.eraseIdx_cons_succ, ih]
      simp only [mdel, List.filter_cons]
      rw [if_pos]
      simp only [decide_eq_true_eq]
      intro e
      exact hn.1 (List.mem_map.2 ⟨_, List.mem_of_getElem? hi, e.symm⟩)
theorem set_perm_mset {x : κ} {v u : α} {m : List (κ × α)} (hn : (keysOf m).Nodup) {i : Nat} (hi : m[i]? = some (x, v)) : (m.set i (x, u)).Perm (mset x u m) := by
  have h := eraseIdx_perm_mdel hn hi
  have hlt : i < m.length := (List.getElem?_eq_some_iff.1 hi).1
  unfold mset
  rw [← h]
  rw [List.set_eq_take_append_cons_drop, if_pos hlt, List.eraseIdx_eq_take_drop_succ]
  exact List.perm_middle
end

/-! ### in the heap -/
structure KeyOK {κ : Type} (P : Program) (k : TypeId) (kenc : κ → Value) : Prop where
  inj : ∀ x y, kenc x = kenc y → x = y
  chk : ∀ (em : Bool) (x : κ) (w : World), (Instr.checkKey em 10000 k (kenc x)).run P w = .ok () w
  non : ∀ (x : κ) (ks : List κ) (es : List MapEntry) (w : World), es.map (·.key) = ks.map kenc → x ∉ ks → (Instr.findKey k (kenc x) es).run P w = .ok none w
  fnd : ∀ (x : κ) (ks : List κ) (es : List MapEntry) (w : World) (i : Nat) (e : MapEntry), es.map (·.key) = ks.map kenc → ks[i]? = some x → (∀ j, j < i → ks[j]? ≠ some x) → es[i]? = some e → (Instr.findKey k (kenc x) es).run P w = .ok (some (i, e.val)) w
  stay : ∀ (x : κ) (w : World), (Instr.keyThatStays (kenc x) (kenc x)).run P w = .ok (kenc x) w

theorem findNow_int {kk kd : IntKind} (x : Int) : ∀ (es : List MapEntry) (ks : List Int) (i : Nat), es.map (·.key) = ks.map (Value.int kk) →
    (x ∉ ks → Instr.findNow (.int kd) (.int kk x) es i = some none) ∧ ∀ j e, ks[j]? = some x → (∀ l, l < j → ks[l]? ≠ some x) → es[j]? = some e → Instr.findNow (.int kd) (.int kk x) es i = some (some (i + j, e.val))
  | [], [], i, _ => ⟨fun _ => rfl, fun j e h => by simp at h⟩
  | [], _ :: _, i, h => by simp at h
  | _ :: _, [], i, h => by simp at h
  | e0 :: es, y :: ks, i, h => by
    simp only [List.map_cons, List.cons.injEq] at h
    obtain ⟨ih1, ih2⟩ := findNow_int (kd := kd) x es ks (i + 1) h.2
    by_cases e : x = y
    · subst e
      refine ⟨fun hx => absurd (by simp) hx, fun j e1 hj hl he => ?_⟩
      have : j = 0 := by
        cases j with
        | zero => rfl
        | succ j => exact absurd rfl (hl 0 (by omega))
      subst this
      simp at he; subst he
      simp [Instr.findNow, Instr.sameNow, h.1]
    · refine ⟨fun hx => ?_, fun j e1 hj hl he => ?_⟩
      · simp only [List.mem_cons, not_or] at hx
        have e' : (x == y) = false := by simpa using e
        simp [Instr.findNow, Instr.sameNow, h.1, e', ih1 hx.2]
      · cases j with
        | zero => simp at hj; exact absurd hj.symm e
        | succ j =>
          have := ih2 j e1 (by simpa using hj) (fun l hl' => by simpa using hl (l + 1) (by omega)) (by simpa using he)
          have e' : (x == y) = false := by simpa using e
          simp only [Instr.findNow, Instr.sameNow, h.1, e', this, if_true]
          rw [show i + 1 + j = i + (j + 1) by omega]
theorem keyOK_int {P : Program} {k : TypeId} {kd : IntKind} (h : P.underlying k = some (.int kd)) : KeyOK P k (Value.int kd) where
  inj x y h := by cases h; rfl
  chk em x w := by
    show (Instr.checkKey em (9999 + 1) k (Value.int kd x)).run P w = .ok () w
    generalize 9999 = n
    simp [Instr.checkKey, run_underlying h]
  non x ks es w hk hx := by simp [Instr.findKey, run_underlying h, (findNow_int (kd := kd) x es ks 0 hk).1 hx]
  fnd x ks es w i e hk h1 h2 h3 := by simp [Instr.findKey, run_underlying h, (findNow_int (kd := kd) x es ks 0 hk).2 i e h1 h2 h3]
  stay x w := by
    have : Instr.sameBits 10000 (Value.int kd x) (Value.int kd x) = true := by
      generalize 10000 = n
      unfold Instr.sameBits; simp
    simp [Instr.keyThatStays, this]

structure MapT {α : Type} (P : Program) (t k e : Nat) (venc : α → Value) (z : α) : Prop where
  und : P.underlying t = some (.map k e)
  info : ∃ i, P.info? e = some i ∧ i.zero = some (venc z)

/-- A map: its entries, in any order. -/
def mapA {κ α : Type} (kenc : κ → Value) (venc : α → Value) (r : Nat) (m : List (κ × α)) : Assn := fun h =>
  (keysOf m).Nodup ∧ ∃ es clock, (∃ ml : List (κ × α), ml.Perm m ∧ es.toList.map (fun e : MapEntry => (e.key, e.val)) = ml.map fun p => (kenc p.1, venc p.2)) ∧
    (es.toList.map (·.born)).Nodup ∧ (∀ e ∈ es.toList, e.born < clock) ∧ pt r (.map es clock) h

section
variable {κ α : Type} {kenc : κ → Value} {venc : α → Value} {r : Nat} {m m' : List (κ × α)} {H : Heap} {F : Assn} {P : Program}

theorem mapA_perm (hp : m.Perm m') : mapA kenc venc r m = mapA kenc venc r m' := by
  funext h
  apply propext
  have key : ∀ {a b : List (κ × α)}, a.Perm b → mapA kenc venc r a h → mapA kenc venc r b h := by
    rintro a b hab ⟨hn, es, clock, ⟨ml, h1, h2⟩, h3, h4, h5⟩
    exact ⟨(hab.map Prod.fst).nodup_iff.1 hn, es, clock, ⟨ml, h1.trans hab, h2⟩, h3, h4, h5⟩
  exact ⟨key hp, key hp.symm⟩
theorem mapA_open (h : Sat H (mapA kenc venc r m * F)) : (keysOf m).Nodup ∧ ∃ es clock, (∃ ml : List (κ × α), ml.Perm m ∧ es.toList.map (fun e : MapEntry => (e.key, e.val)) = ml.map fun p => (kenc p.1, venc p.2)) ∧
    (es.toList.map (·.born)).Nodup ∧ (∀ e ∈ es.toList, e.born < clock) ∧ Sat H (pt r (.map es clock) * F) := by
  obtain ⟨g, h1, x, y, hd, rfl, ⟨hn, es, clock, h2, h3, h4, h5⟩, hy⟩ := h
  exact ⟨hn, es, clock, h2, h3, h4, _, h1, x, y, hd, rfl, h5, hy⟩
theorem mapA_new (h : Sat H (pt r (.map #[] 0) * F)) : Sat H (mapA kenc venc r [] * F) :=
  h.frame fun p hp => ⟨by simp, #[], 0, ⟨[], .refl _, rfl⟩, by simp, by simp, hp⟩
theorem mapA_nodup (h : Sat H (mapA kenc venc r m * F)) : (keysOf m).Nodup := (mapA_open h).1

theorem map_es {es : Array MapEntry} {ml : List (κ × α)} (h : es.toList.map (fun e : MapEntry => (e.key, e.val)) = ml.map fun p => (kenc p.1, venc p.2)) :
    es.toList.map (·.key) = (keysOf ml).map kenc ∧ ∀ (i : Nat) x v, ml[i]? = some (x, v) → ∃ e : MapEntry, es.toList[i]? = some e ∧ e.key = kenc x ∧ e.val = venc v := by
  constructor
  · have := congrArg (List.map Prod.fst) h
    simpa [keysOf, Function.comp_def] using this
  · intro i x v hi
    have h2 := congrArg (fun l => l[i]?) h
    simp only [List.getElem?_map, hi, Option.map_some] at h2
    cases he : es.toList[i]? with
    | none => rw [he] at h2; cases h2
    | some e => rw [he] at h2; simp at h2; exact ⟨e, rfl, h2.1, h2.2⟩

section
variable [DecidableEq κ] {t k e : Nat} {z : α} (T : MapT P t k e venc z) (KO : KeyOK P k kenc)
include T KO

theorem map_look {x : κ} (h : Sat H (mapA kenc venc r m * F)) :
    (∀ v, mlook x m = some v → ReadRun P (Instr.lookup t (.map (some r)) (kenc x) true) H (.tuple #[venc v, .bool true]) ∧ ReadRun P (Instr.lookup t (.map (some r)) (kenc x) false) H (venc v)) ∧
    (mlook x m = none → ReadRun P (Instr.lookup t (.map (some r)) (kenc x) true) H (.tuple #[venc z, .bool false]) ∧ ReadRun P (Instr.lookup t (.map (some r)) (kenc x) false) H (venc z)) := by
  obtain ⟨hn, es, clock, ⟨ml, hp, hes⟩, _, _, h5⟩ := mapA_open h
  have hb := h5.get
  obtain ⟨hk, hv⟩ := map_es hes
  have hnl : (keysOf ml).Nodup := (hp.map Prod.fst).nodup_iff.2 hn
  obtain ⟨i, hi, hz⟩ := T.info
  constructor
  · intro v hlook
    rw [← mlook_perm hnl hp] at hlook
    obtain ⟨j, hj, hj2⟩ := getElem?_of_mlook hlook
    obtain ⟨e', he, _, hev⟩ := hv j x v hj
    constructor <;> intro w hw <;> subst hw <;>
      simp [Instr.lookup, run_underlying T.und, Go.MapKept.run_getObj_map hb, KO.chk, KO.fnd x (keysOf ml) es.toList w j e' hk (by simp [keysOf, hj]) hj2 he, hev]
  · intro hlook
    rw [← mlook_perm hnl hp, mlook_none] at hlook
    constructor <;> intro w hw <;> subst hw <;>
      simp [Instr.lookup, run_underlying T.und, Go.MapKept.run_getObj_map hb, KO.chk, KO.non x (keysOf ml) es.toList w hk hlook, zeroValue, typeInfo, hi, hz]
omit [DecidableEq κ] in
theorem map_look_nil {x : κ} (H : Heap) :
    ReadRun P (Instr.lookup t (.map none) (kenc x) true) H (.tuple #[venc z, .bool false]) ∧ ReadRun P (Instr.lookup t (.map none) (kenc x) false) H (venc z) := by
  obtain ⟨i, hi, hz⟩ := T.info
  constructor <;> intro w hw <;> subst hw <;>
      simp [Instr.lookup, run_underlying T.und, KO.chk, KO.non x [] [] w rfl (by simp), zeroValue, typeInfo, hi, hz]

omit T KO [DecidableEq κ] in
theorem Rest_setObj (w : World) (r : Nat) (o : Obj) : Rest w { w with heap := w.heap.setIfInBounds r o } := ⟨rfl, rfl, rfl⟩
omit T KO [DecidableEq κ] in
theorem upd_set {H : Heap} {o o' : Obj} (h : Sat H (pt r o * F)) : Sat (H.setIfInBounds r o') (pt r o' * F) := by
  refine h.upd ?_ fun i hi => ?_
  · rw [Array.getElem?_setIfInBounds, if_pos rfl, if_pos h.lt]
  · rw [Array.getElem?_setIfInBounds, if_neg (fun e => hi e.symm)]

theorem map_update {x : κ} {v : α} {K : Unit → Heap → Prop} (h : Sat H (mapA kenc venc r m * F)) (kk : ∀ H', Sat H' (mapA kenc venc r (mset x v m) * F) → K () H') :
    RunW P (Instr.mapUpdate t (.map (some r)) (kenc x) (venc v)) H K := by
  obtain ⟨hn, es, clock, ⟨ml, hp, hes⟩, hborn, hclock, h5⟩ := mapA_open h
  have hb := h5.get
  obtain ⟨hk, hv⟩ := map_es hes
  have hnl : (keysOf ml).Nodup := (hp.map Prod.fst).nodup_iff.2 hn
  intro w hw
  subst hw
  cases hlook : mlook x ml with
  | some u =>
    obtain ⟨j, hj, hj2⟩ := getElem?_of_mlook hlook
    obtain ⟨e', he, hek, hev⟩ := hv j x u hj
    refine ⟨(), _, ?_, Rest_setObj w r (.map (es.modify j fun e => { e with key := kenc x, val := venc v }) clock), kk _ ((upd_set h5).frame fun p hp' => ?_)⟩
    · have he2 : es[j]? = some e' := by simpa using he
      simp [Instr.mapUpdate, run_underlying T.und, Go.MapKept.run_getObj_map hb, KO.chk, KO.fnd x (keysOf ml) es.toList w j e' hk (by simp [keysOf, hj]) hj2 he, he2, hek, KO.stay, Go.MapKept.run_setObj_map _ hb]
    · refine ⟨nodup_mset hn, _, _, ⟨ml.set j (x, v), (set_perm_mset hnl hj).trans (mset_perm hp), ?_⟩, ?_, ?_, hp'⟩
      · apply List.ext_getElem?
        intro i
        have h2 := congrArg (fun l => l[i]?) hes
        simp only [List.getElem?_map] at h2 ⊢
        simp only [Array.toList_modify, List.getElem?_modify, List.getElem?_set]
        by_cases hij : j = i
        · subst hij
          have hlt : j < ml.length := (List.getElem?_eq_some_iff.1 hj).1
          simp [he, hlt]
        · simp only [if_neg hij, Option.map_map, Function.comp_def] at h2 ⊢
          simpa using h2
      · have : ((es.modify j fun e => { e with key := kenc x, val := venc v }).toList.map (·.born)) = es.toList.map (·.born) := by
          apply List.ext_getElem?
          intro i
          simp only [List.getElem?_map, Array.toList_modify, List.getElem?_modify]
          cases es.toList[i]? with
          | none => simp
          | some a => simp; split <;> rfl
        rw [this]; exact hborn
      · intro e2 he2
        obtain ⟨i, hi⟩ := List.getElem?_of_mem he2
        simp only [Array.toList_modify, List.getElem?_modify] at hi
        cases h3 : es.toList[i]? with
        | none => simp [h3] at hi
        | some a =>
          have := hclock a (List.mem_of_getElem? h3)
          rw [h3] at hi
          simp at hi
          subst hi
          split <;> exact this
  | none =>
    have hl2 : x ∉ keysOf ml := mlook_none.1 hlook
    refine ⟨(), _, ?_, Rest_setObj w r (.map (es.push { key := kenc x, val := venc v, born := clock }) (clock + 1)), kk _ ((upd_set h5).frame fun p hp' => ?_)⟩
    · simp [Instr.mapUpdate, run_underlying T.und, Go.MapKept.run_getObj_map hb, KO.chk, KO.non x (keysOf ml) es.toList w hk hl2, Go.MapKept.run_setObj_map _ hb]
    · refine ⟨nodup_mset hn, _, _, ⟨ml ++ [(x, v)], ?_, ?_⟩, ?_, ?_, hp'⟩
      · unfold mset
        rw [mdel_of_none (by rw [← mlook_perm hnl hp]; exact hlook)]
        exact (List.perm_append_singleton _ _).trans (hp.cons _)
      · simp [hes]
      · simp only [Array.toList_push, List.map_append, List.map_cons, List.map_nil]
        rw [List.nodup_append]
        refine ⟨hborn, by simp, ?_⟩
        intro a ha b hb' hab
        simp at hb'
        subst hb'
        subst hab
        obtain ⟨e2, h3, h4⟩ := List.mem_map.1 ha
        have := hclock e2 h3
        omega
      · intro e2 he2
        simp at he2
        rcases he2 with h3 | h3
        · have := hclock e2 (by simpa using h3); omega
        · subst h3; simp

theorem map_delete {x : κ} {ty : Nat} {K : Value → Heap → Prop} (h : Sat H (mapA kenc venc r m * F)) (kk : ∀ H', Sat H' (mapA kenc venc r (mdel x m) * F) → K (.tuple #[]) H') :
    RunW P (Builtin.delete_ #[t, k] ty #[.map (some r), kenc x]) H K := by
  obtain ⟨hn, es, clock, ⟨ml, hp, hes⟩, hborn, hclock, h5⟩ := mapA_open h
  have hb := h5.get
  obtain ⟨hk, hv⟩ := map_es hes
  have hnl : (keysOf ml).Nodup := (hp.map Prod.fst).nodup_iff.2 hn
  intro w hw
  subst hw
  cases hlook : mlook x ml with
  | some u =>
    obtain ⟨j, hj, hj2⟩ := getElem?_of_mlook hlook
    obtain ⟨e', he, hek, hev⟩ := hv j x u hj
    have hjlt : j < es.size := by have := (List.getElem?_eq_some_iff.1 he).1; simpa using this
    have hlist : (es.eraseIdxIfInBounds j).toList = es.toList.eraseIdx j := by
      simp [Array.eraseIdxIfInBounds, hjlt, Array.toList_eraseIdx]
    refine ⟨.tuple #[], _, ?_, Rest_setObj w r (.map (es.eraseIdxIfInBounds j) clock), kk _ ((upd_set h5).frame fun p hp' => ?_)⟩
    · simp [Builtin.delete_, run_underlying T.und, Go.MapKept.run_getObj_map hb, KO.chk, KO.fnd x (keysOf ml) es.toList w j e' hk (by simp [keysOf, hj]) hj2 he, Go.MapKept.run_setObj_map _ hb]
    · refine ⟨nodup_mdel hn, _, _, ⟨ml.eraseIdx j, ?_, ?_⟩, ?_, ?_, hp'⟩
      · rw [eraseIdx_perm_mdel hnl hj]; exact mdel_perm hp
      · rw [hlist]
        rw [map_eraseIdx', map_eraseIdx', hes]
      · rw [hlist, map_eraseIdx']
        exact hborn.sublist (List.eraseIdx_sublist _ _)
      · intro e2 he2
        rw [hlist] at he2
        exact hclock e2 (List.mem_of_mem_eraseIdx he2)
  | none =>
    have hl2 : x ∉ keysOf ml := mlook_none.1 hlook
    refine ⟨.tuple #[], _, ?_, Rest_setObj w r (.map es clock), kk _ ((upd_set h5).frame fun p hp' => ?_)⟩
    · simp [Builtin.delete_, run_underlying T.und, Go.MapKept.run_getObj_map hb, KO.chk, KO.non x (keysOf ml) es.toList w hk hl2, Go.MapKept.run_setObj_map _ hb]
    · refine ⟨nodup_mdel hn, es, clock, ⟨ml, ?_, hes⟩, hborn, hclock, hp'⟩
      rw [mdel_of_none (by rw [← mlook_perm hnl hp]; exact hlook)]; exact hp

omit KO [DecidableEq κ] in
theorem map_clear {ty : Nat} {K : Value → Heap → Prop} (h : Sat H (mapA kenc venc r m * F)) (kk : ∀ H', Sat H' (mapA kenc venc r [] * F) → K (.tuple #[]) H') :
    RunW P (Builtin.clear_ #[t] ty #[.map (some r)]) H K := by
  obtain ⟨hn, es, clock, ⟨ml, hp, hes⟩, hborn, hclock, h5⟩ := mapA_open h
  have hb := h5.get
  intro w hw
  subst hw
  refine ⟨.tuple #[], _, ?_, Rest_setObj w r (.map #[] clock), kk _ ((upd_set h5).frame fun p hp' => ?_)⟩
  · simp [Builtin.clear_, run_underlying T.und, Go.MapKept.run_getObj_map hb, Go.MapKept.run_setObj_map _ hb]
  · exact ⟨by simp, #[], clock, ⟨[], .refl _, rfl⟩, by simp, by simp, hp'⟩

omit KO [DecidableEq κ] in
theorem map_len {ty : Nat} (h : Sat H (mapA kenc venc r m * F)) : ReadRun P (Builtin.len_ #[t] ty #[.map (some r)]) H (.int .i64 m.length) := by
  obtain ⟨hn, es, clock, ⟨ml, hp, hes⟩, hborn, hclock, h5⟩ := mapA_open h
  have hb := h5.get
  intro w hw
  subst hw
  have hlen : es.size = m.length := by
    have := congrArg List.length hes
    simp at this
    rw [this, hp.length_eq]
  simp [Builtin.len_, run_underlying T.und, Go.MapKept.run_getObj_map hb, hlen, goInt]
end
end

section
variable {κ α : Type} {kenc : κ → Value} {venc : α → Value} {r : Nat} {m m' : List (κ × α)} {H : Heap} {L : List Assn} {P : Program}
theorem SatL.mp_new (h : SatL H (pt r (.map #[] 0) :: L)) (kenc : κ → Value) (venc : α → Value) : SatL H (mapA kenc venc r [] :: L) := mapA_new h
theorem SatL.mp_nodup (h : SatL H L) (i : Nat) (hA : nth i L = mapA kenc venc r m) : (keysOf m).Nodup := mapA_nodup (F := star (del i L)) (by have := h.foc i; rw [hA] at this; exact this)
variable [DecidableEq κ] {t k e : Nat} {z : α} (T : MapT P t k e venc z) (KO : KeyOK P k kenc)
include T KO
theorem SatL.mp_look {x : κ} (h : SatL H L) (i : Nat) (hA : nth i L = mapA kenc venc r m) :
    (∀ v, mlook x m = some v → ReadRun P (Instr.lookup t (.map (some r)) (kenc x) true) H (.tuple #[venc v, .bool true]) ∧ ReadRun P (Instr.lookup t (.map (some r)) (kenc x) false) H (venc v)) ∧
    (mlook x m = none → ReadRun P (Instr.lookup t (.map (some r)) (kenc x) true) H (.tuple #[venc z, .bool false]) ∧ ReadRun P (Instr.lookup t (.map (some r)) (kenc x) false) H (venc z)) := by
  have h2 := h.foc i
  rw [hA] at h2
  exact map_look T KO h2
theorem SatL.mp_update {x : κ} {v : α} {K : Unit → Heap → Prop} (h : SatL H L) (i : Nat) (hA : nth i L = mapA kenc venc r m) (kk : ∀ H', SatL H' (put i (mapA kenc venc r (mset x v m)) L) → K () H') :
    RunW P (Instr.mapUpdate t (.map (some r)) (kenc x) (venc v)) H K := by
  have h2 := h.foc i
  rw [hA] at h2
  exact map_update T KO h2 fun H' h3 => kk H' (SatL.back h3)
theorem SatL.mp_delete {x : κ} {ty : Nat} {K : Value → Heap → Prop} (h : SatL H L) (i : Nat) (hA : nth i L = mapA kenc venc r m) (kk : ∀ H', SatL H' (put i (mapA kenc venc r (mdel x m)) L) → K (.tuple #[]) H') :
    RunW P (Builtin.delete_ #[t, k] ty #[.map (some r), kenc x]) H K := by
  have h2 := h.foc i
  rw [hA] at h2
  exact map_delete T KO h2 fun H' h3 => kk H' (SatL.back h3)
omit KO [DecidableEq κ] in
theorem SatL.mp_clear {ty : Nat} {K : Value → Heap → Prop} (h : SatL H L) (i : Nat) (hA : nth i L = mapA kenc venc r m) (kk : ∀ H', SatL H' (put i (mapA kenc venc r []) L) → K (.tuple #[]) H') :
    RunW P (Builtin.clear_ #[t] ty #[.map (some r)]) H K := by
  have h2 := h.foc i
  rw [hA] at h2
  exact map_clear T h2 fun H' h3 => kk H' (SatL.back h3)
omit KO [DecidableEq κ] in
theorem SatL.mp_len {ty : Nat} (h : SatL H L) (i : Nat) (hA : nth i L = mapA kenc venc r m) : ReadRun P (Builtin.len_ #[t] ty #[.map (some r)]) H (.int .i64 m.length) := by
  have h2 := h.foc i
  rw [hA] at h2
  exact map_len T h2
end
end Go.Nm
