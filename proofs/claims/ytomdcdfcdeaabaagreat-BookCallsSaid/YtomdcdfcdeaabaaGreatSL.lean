/-
  A small separation logic over heaps. Assertions speak of a part of the heap; what is not named may be there.
-/
import Derived.Test.YtomdcdfcdeaabaaGreatE9
namespace Go.Nm
open Go

abbrev PH := Nat → Option Obj
def Assn := PH → Prop

def phUnion (a b : PH) : PH := fun i => match a i with | some o => some o | none => b i
def phDisj (a b : PH) : Prop := ∀ i, a i = none ∨ b i = none
def Assn.sep (A B : Assn) : Assn := fun h => ∃ a b, phDisj a b ∧ h = phUnion a b ∧ A a ∧ B b
instance : Mul Assn := ⟨Assn.sep⟩
def phEmpty : PH := fun _ => none
def emp : Assn := fun h => h = phEmpty
/-- Block b holds o. -/
def pt (b : Nat) (o : Obj) : Assn := fun h => h = fun i => if i = b then some o else none
def pur (p : Prop) : Assn := fun h => p ∧ h = phEmpty
def exS {α : Type} (A : α → Assn) : Assn := fun h => ∃ x, A x h
/-- The memory that was there at the beginning, as it was. -/
def old (H0 : Heap) : Assn := fun h => h = fun i => H0[i]?

def Sat (H : Heap) (A : Assn) : Prop := ∃ h : PH, (∀ i o, h i = some o → H[i]? = some o) ∧ A h

theorem mul_def (A B : Assn) (h : PH) : (A * B) h ↔ ∃ a b, phDisj a b ∧ h = phUnion a b ∧ A a ∧ B b := Iff.rfl

theorem phUnion_comm {a b : PH} (h : phDisj a b) : phUnion a b = phUnion b a := by
  funext i
  simp only [phUnion]
  rcases h i with h | h <;> simp only [h] <;> split <;> simp_all

theorem sep_comm (A B : Assn) : A * B = B * A := by
  funext h
  apply propext
  constructor
  · rintro ⟨a, b, hd, rfl, ha, hb⟩
    exact ⟨b, a, fun i => (hd i).symm, phUnion_comm hd, hb, ha⟩
  · rintro ⟨a, b, hd, rfl, ha, hb⟩
    exact ⟨b, a, fun i => (hd i).symm, phUnion_comm hd, hb, ha⟩

theorem phUnion_assoc (a b c : PH) : phUnion (phUnion a b) c = phUnion a (phUnion b c) := by
  funext i
  simp only [phUnion]
  cases a i <;> simp

theorem sep_assoc (A B C : Assn) : A * B * C = A * (B * C) := by
  funext h
  apply propext
  constructor
  · rintro ⟨ab, c, hd, rfl, ⟨a, b, hd', rfl, ha, hb⟩, hc⟩
    refine ⟨a, phUnion b c, fun i => ?_, phUnion_assoc a b c, ha, b, c, fun i => ?_, rfl, hb, hc⟩
    · simp only [phUnion]
      rcases hd' i with h | h
      · exact .inl h
      · rcases hd i with h2 | h2
        · simp only [phUnion] at h2
          cases ha : a i with
          | none => exact .inl rfl
          | some o => simp [ha] at h2
        · right; simp [h, h2]
    · rcases hd i with h2 | h2
      · simp only [phUnion] at h2
        cases ha : a i with
        | none => simp [ha] at h2; exact .inl h2
        | some o => simp [ha] at h2
      · exact .inr h2
  · rintro ⟨a, bc, hd, rfl, ha, b, c, hd', rfl, hb, hc⟩
    refine ⟨phUnion a b, c, fun i => ?_, (phUnion_assoc a b c).symm, ⟨a, b, fun i => ?_, rfl, ha, hb⟩, hc⟩
    · rcases hd i with h2 | h2
      · simp only [phUnion, h2]
        exact hd' i
      · simp only [phUnion] at h2
        cases hb : b i with
        | none => simp [hb] at h2; exact .inr h2
        | some o => simp [hb] at h2
    · rcases hd i with h2 | h2
      · exact .inl h2
      · simp only [phUnion] at h2
        cases hb : b i with
        | none => exact .inr rfl
        | some o => simp [hb] at h2

instance : Std.Commutative (α := Assn) (· * ·) := ⟨sep_comm⟩
instance : Std.Associative (α := Assn) (· * ·) := ⟨sep_assoc⟩
theorem sep_left_comm (A B C : Assn) : A * (B * C) = B * (A * C) := by rw [← sep_assoc, sep_comm A B, sep_assoc]

theorem phUnion_empty (h : PH) : phUnion phEmpty h = h := by funext i; rfl
theorem emp_sep (A : Assn) : emp * A = A := by
  funext h
  apply propext
  constructor
  · rintro ⟨a, b, hd, rfl, ha, hb⟩
    have : a = phEmpty := ha
    subst this
    rw [phUnion_empty]; exact hb
  · intro hA
    exact ⟨phEmpty, h, fun i => .inl rfl, (phUnion_empty h).symm, rfl, hA⟩
theorem sep_emp (A : Assn) : A * emp = A := by rw [sep_comm, emp_sep]

theorem pur_eq (p : Prop) (A : Assn) (h : PH) : (pur p * A) h ↔ p ∧ A h := by
  constructor
  · rintro ⟨a, b, hd, rfl, ⟨hp, rfl⟩, hb⟩
    rw [phUnion_empty]; exact ⟨hp, hb⟩
  · rintro ⟨hp, hA⟩
    exact ⟨phEmpty, h, fun i => .inl rfl, (phUnion_empty h).symm, ⟨hp, rfl⟩, hA⟩
theorem exS_sep {α : Type} (A : α → Assn) (B : Assn) : exS A * B = exS fun x => A x * B := by
  funext h
  apply propext
  constructor
  · rintro ⟨a, b, hd, rfl, ⟨x, ha⟩, hb⟩; exact ⟨x, a, b, hd, rfl, ha, hb⟩
  · rintro ⟨x, a, b, hd, rfl, ha, hb⟩; exact ⟨a, b, hd, rfl, ⟨x, ha⟩, hb⟩

section
variable {H : Heap} {A B F : Assn}

theorem Sat.mono (h : Sat H A) (hk : ∀ h, A h → B h) : Sat H B := let ⟨g, h1, h2⟩ := h; ⟨g, h1, hk _ h2⟩
theorem Sat.eq (h : Sat H A) (he : A = B) : Sat H B := he ▸ h
theorem Sat.drop (h : Sat H (A * B)) : Sat H A := by
  obtain ⟨g, h1, a, b, hd, rfl, ha, hb⟩ := h
  exact ⟨a, fun i o ho => h1 i o (by simp [phUnion, ho]), ha⟩
theorem Sat.drop' (h : Sat H (A * B)) : Sat H B := by rw [sep_comm] at h; exact h.drop
theorem Sat.frame (h : Sat H (A * F)) (hk : ∀ h, A h → B h) : Sat H (B * F) := by
  obtain ⟨g, h1, a, b, hd, he, ha, hb⟩ := h
  exact ⟨g, h1, a, b, hd, he, hk _ ha, hb⟩
theorem sat_ex {α : Type} {A : α → Assn} : Sat H (exS A) ↔ ∃ x, Sat H (A x) :=
  ⟨fun ⟨g, h1, x, h2⟩ => ⟨x, g, h1, h2⟩, fun ⟨x, g, h1, h2⟩ => ⟨g, h1, x, h2⟩⟩
theorem sat_exs {α : Type} {A : α → Assn} : Sat H (exS A * F) ↔ ∃ x, Sat H (A x * F) := by rw [exS_sep, sat_ex]
theorem sat_pur {p : Prop} : Sat H (pur p * A) ↔ p ∧ Sat H A :=
  ⟨fun ⟨g, h1, h2⟩ => ⟨((pur_eq p A g).1 h2).1, g, h1, ((pur_eq p A g).1 h2).2⟩, fun ⟨hp, g, h1, h2⟩ => ⟨g, h1, (pur_eq p A g).2 ⟨hp, h2⟩⟩⟩
theorem sat_emp : Sat H emp := ⟨phEmpty, fun _ _ h => (by cases h), rfl⟩

theorem Sat.get {b : Nat} {o : Obj} (h : Sat H (pt b o * F)) : H[b]? = some o := by
  obtain ⟨g, h1, a, c, hd, rfl, ha, hc⟩ := h
  refine h1 b o ?_
  have : a = _ := ha
  subst this
  simp [phUnion]

/-- The heap has turned at one block. -/
theorem Sat.upd {b : Nat} {o o' : Obj} {H' : Heap} (h : Sat H (pt b o * F)) (hb : H'[b]? = some o') (ho : ∀ i, i ≠ b → H'[i]? = H[i]?) : Sat H' (pt b o' * F) := by
  obtain ⟨g, h1, a, c, hd, rfl, ha, hc⟩ := h
  have : a = _ := ha
  subst this
  have hcb : c b = none := by
    rcases hd b with h | h
    · simp at h
    · exact h
  refine ⟨phUnion (fun i => if i = b then some o' else none) c, fun i o1 h2 => ?_, _, c, fun i => ?_, rfl, rfl, hc⟩
  · simp only [phUnion] at h2
    by_cases hi : i = b
    · subst hi; simp at h2; subst h2; exact hb
    · rw [ho i hi]
      refine h1 i o1 ?_
      simp only [phUnion, if_neg hi] at h2 ⊢
      exact h2
  · by_cases hi : i = b
    · subst hi; exact .inr hcb
    · left; simp [hi]

theorem Sat.push (h : Sat H F) (o : Obj) : Sat (H.push o) (pt H.size o * F) := by
  obtain ⟨g, h1, h2⟩ := h
  have hlt : ∀ i o', g i = some o' → i < H.size := fun i o' hi => (Array.getElem?_eq_some_iff.1 (h1 i o' hi)).1
  refine ⟨phUnion (fun i => if i = H.size then some o else none) g, fun i o1 h3 => ?_, _, g, fun i => ?_, rfl, rfl, h2⟩
  · simp only [phUnion] at h3
    by_cases hi : i = H.size
    · subst hi; simp at h3; subst h3; simp
    · simp only [if_neg hi] at h3
      have := hlt i o1 h3
      rw [Array.getElem?_push, if_neg hi]; exact h1 i o1 h3
  · by_cases hi : i = H.size
    · subst hi
      right
      cases hg : g H.size with
      | none => rfl
      | some o' => have := hlt _ _ hg; omega
    · left; simp [hi]

theorem Sat.ne {b c : Nat} {o o' : Obj} (h : Sat H (pt b o * (pt c o' * F))) : b ≠ c := by
  obtain ⟨g, h1, a, d, hd, rfl, ha, d1, d2, hd2, rfl, hd3, hd4⟩ := h
  intro he
  subst he
  have : a = _ := ha
  subst this
  have : d1 = _ := hd3
  subst this
  rcases hd b with h | h
  · simp at h
  · simp [phUnion] at h

theorem Sat.lt {b : Nat} {o : Obj} (h : Sat H (pt b o * F)) : b < H.size := (Array.getElem?_eq_some_iff.1 h.get).1

theorem sat_start (H : Heap) : Sat H (old H) := ⟨fun i => H[i]?, fun _ _ h => h, rfl⟩
theorem Sat.was {H0 : Heap} (h : Sat H (old H0 * F)) {i : Nat} (hi : i < H0.size) : H[i]? = H0[i]? := by
  obtain ⟨g, h1, a, c, hd, rfl, ha, hc⟩ := h
  have : a = _ := ha
  subst this
  have h2 : H0[i]? = some H0[i] := by simp [hi]
  rw [h2]
  refine h1 i _ ?_
  simp [phUnion, h2]
theorem Sat.was_size {H0 : Heap} (h : Sat H (old H0 * F)) : H0.size ≤ H.size := by
  rcases Nat.lt_or_ge H.size H0.size with hlt | hge
  · have := h.was hlt
    simp [hlt] at this
  · exact hge
theorem Sat.ge {H0 : Heap} {b : Nat} {o : Obj} (h : Sat H (pt b o * (old H0 * F))) : H0.size ≤ b := by
  obtain ⟨g, h1, a, d, hd, rfl, ha, d1, d2, hd2, rfl, hd3, hd4⟩ := h
  have : a = _ := ha
  subst this
  have : d1 = _ := hd3
  subst this
  rcases Nat.lt_or_ge b H0.size with hlt | hge
  · exfalso
    rcases hd b with h | h
    · simp at h
    · simp [phUnion, hlt] at h
  · exact hge

/-- Two blocks in one. -/
theorem Sat.get2 {b c : Nat} {o o' : Obj} (h : Sat H (pt b o * (pt c o' * F))) : H[b]? = some o ∧ H[c]? = some o' := ⟨h.get, h.drop'.get⟩
end

/-! ### cells -/
/-- A block of cells that may be written. -/
def cellsA (b : Nat) (cs : List Value) (e : TypeId) : Assn := pt b (.cells cs.toArray e (0, 0))

theorem Sat.cell {H : Heap} {F : Assn} {b : Nat} {cs : List Value} {e : TypeId} (h : Sat H (cellsA b cs e * F)) (o : Nat) : cellAt H b o = cs[o]? := by
  have := h.get
  simp [cellAt, this]
theorem Sat.cell_old {H H0 : Heap} {F : Assn} (h : Sat H (old H0 * F)) {b o : Nat} {v : Value} (hc : cellAt H0 b o = some v) : cellAt H b o = some v := by
  have hb : b < H0.size := by
    unfold cellAt at hc
    rcases Nat.lt_or_ge b H0.size with hlt | hge
    · exact hlt
    · simp [Array.getElem?_eq_none hge] at hc
  simp only [cellAt, h.was hb]; exact hc

theorem setAt_get {H : Heap} {b o : Nat} {v : Value} {cs : List Value} {e : TypeId} (h : H[b]? = some (.cells cs.toArray e (0, 0))) :
    (setAt H b o v)[b]? = some (.cells (cs.set o v).toArray e (0, 0)) ∧ ∀ i, i ≠ b → (setAt H b o v)[i]? = H[i]? := by
  refine ⟨?_, fun i hi => ?_⟩
  · simp only [setAt, Array.getElem?_modify, if_true, h, Option.map_some]
    simp
  · simp only [setAt, Array.getElem?_modify]
    rw [if_neg (fun e => hi e.symm)]

def setsL (cs : List Value) : Nat → List Value → List Value
  | _, [] => cs
  | o, v :: r => setsL (cs.set o v) (o + 1) r

theorem Sat.set1 {H : Heap} {F : Assn} {b : Nat} {cs : List Value} {e : TypeId} (h : Sat H (cellsA b cs e * F)) (o : Nat) (v : Value) : Sat (setAt H b o v) (cellsA b (cs.set o v) e * F) :=
  h.upd (setAt_get h.get).1 (setAt_get h.get).2
theorem Sat.sets {H : Heap} {F : Assn} {b : Nat} {e : TypeId} : ∀ (vs : List Value) {cs : List Value} (o : Nat), Sat H (cellsA b cs e * F) → Sat (setAll H b o vs) (cellsA b (setsL cs o vs) e * F)
  | [], cs, o, h => h
  | v :: r, cs, o, h => by
    have := Sat.set1 h o v
    simp only [setAll, setsL]
    exact Sat.sets r (o + 1) this
theorem Sat.can {H : Heap} {F : Assn} {b : Nat} {cs : List Value} {e : TypeId} (h : Sat H (cellsA b cs e * F)) : ∀ (vs : List Value) (o : Nat), o + vs.length ≤ cs.length → canSet H b o vs
  | [], _, _ => trivial
  | v :: r, o, hl => by
    simp only [List.length_cons] at hl
    refine ⟨⟨?_, ?_⟩, Sat.can h r (o + 1) (by omega)⟩
    · rw [h.cell]; simp; omega
    · have := h.get
      simp only [frozenAt, this]
      simp
end Go.Nm
