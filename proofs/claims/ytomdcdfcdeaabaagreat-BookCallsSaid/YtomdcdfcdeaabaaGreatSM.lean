/-
  Rows of assertions: a part of the heap for each.
-/
import Derived.Test.YtomdcdfcdeaabaaGreatSL
set_option linter.unusedVariables false
set_option linter.unusedSimpArgs false
namespace Go.Nm
open Go

def star : List Assn → Assn
  | [] => emp
  | A :: r => A * star r
def SatL (H : Heap) (L : List Assn) : Prop := Sat H (star L)

def nth : Nat → List Assn → Assn
  | _, [] => emp
  | 0, a :: _ => a
  | n + 1, _ :: r => nth n r
def del : Nat → List Assn → List Assn
  | _, [] => []
  | 0, _ :: r => r
  | n + 1, a :: r => a :: del n r
def put : Nat → Assn → List Assn → List Assn
  | _, A, [] => [A]
  | 0, A, _ :: r => A :: r
  | n + 1, A, a :: r => a :: put n A r
def dropL : Nat → List Assn → List Assn
  | 0, L => L
  | _, [] => []
  | n + 1, _ :: r => dropL n r
def ordL (is : List Nat) (L : List Assn) : List Assn := match is with
  | [] => []
  | i :: r => nth i L :: ordL r L
def ordT (is : List Nat) (n : Nat) (L : List Assn) : List Assn := match is with
  | [] => dropL n L
  | i :: r => nth i L :: ordT r n L

theorem star_focus : ∀ (i : Nat) (L : List Assn), star L = nth i L * star (del i L)
  | _, [] => by simp [nth, del, star, emp_sep]
  | 0, a :: r => rfl
  | n + 1, a :: r => by
    have := star_focus n r
    simp only [nth, del, star]
    rw [this, sep_left_comm]
theorem star_put : ∀ (i : Nat) (A : Assn) (L : List Assn), star (put i A L) = A * star (del i L)
  | _, A, [] => by simp [put, del, star]
  | 0, A, a :: r => rfl
  | n + 1, A, a :: r => by
    have := star_put n A r
    simp only [put, del, star]
    rw [this, sep_left_comm]
theorem nth_put_ne : ∀ {i j : Nat} (L : List Assn), j ≠ i → nth j (put i emp L) = nth j L
  | i, j, [], h => by
    cases j with
    | zero => simp [put, nth]
    | succ n => simp [put, nth]
  | 0, 0, a :: r, h => absurd rfl h
  | 0, j + 1, a :: r, h => rfl
  | i + 1, 0, a :: r, h => rfl
  | i + 1, j + 1, a :: r, h => by
    simp only [put, nth]
    exact nth_put_ne r (by omega)

theorem ordL_congr {L L' : List Assn} : ∀ {is : List Nat}, (∀ j ∈ is, nth j L = nth j L') → ordL is L = ordL is L'
  | [], _ => rfl
  | i :: r, h => by
    simp only [ordL]
    rw [h i (by simp), ordL_congr (is := r) fun j hj => h j (by simp [hj])]

theorem ord_sat {H : Heap} : ∀ (is : List Nat) (L : List Assn) (F : Assn), is.Nodup → Sat H (star L * F) → Sat H (star (ordL is L) * F)
  | [], L, F, _, h => by
    simp only [ordL, star, emp_sep]
    exact h.drop'
  | i :: is, L, F, hn, h => by
    rw [List.nodup_cons] at hn
    have e : star L * F = star (put i emp L) * (nth i L * F) := by
      rw [star_put, emp_sep, star_focus i L]
      rw [sep_comm (nth i L), sep_assoc]
    rw [e] at h
    have h2 := ord_sat is _ _ hn.2 h
    rw [ordL_congr (L := put i emp L) (L' := L) (fun j hj => nth_put_ne L (fun (e : j = i) => hn.1 (by rw [← e]; exact hj)))] at h2
    simp only [ordL, star]
    rw [sep_assoc, sep_left_comm]; exact h2

theorem star_append : ∀ (a b : List Assn), star (a ++ b) = star a * star b
  | [], b => by simp [star, emp_sep]
  | x :: r, b => by simp only [List.cons_append, star]; rw [star_append r b, sep_assoc]

def takeL : Nat → List Assn → List Assn
  | 0, _ => []
  | _, [] => []
  | n + 1, a :: r => a :: takeL n r
theorem take_drop : ∀ (n : Nat) (L : List Assn), L = takeL n L ++ dropL n L
  | 0, L => rfl
  | n + 1, [] => rfl
  | n + 1, a :: r => by simp only [takeL, dropL, List.cons_append]; rw [← take_drop n r]
theorem nth_take : ∀ {n j : Nat} (L : List Assn), j < n → nth j (takeL n L) = nth j L
  | 0, _, _, h => absurd h (by omega)
  | n + 1, j, [], h => rfl
  | n + 1, 0, a :: r, h => rfl
  | n + 1, j + 1, a :: r, h => by simp only [takeL, nth]; exact nth_take r (by omega)
theorem ordT_eq (n : Nat) (L : List Assn) : ∀ (is : List Nat), ordT is n L = ordL is L ++ dropL n L
  | [] => rfl
  | i :: r => by simp only [ordT, ordL, List.cons_append]; rw [ordT_eq n L r]

section
variable {H : Heap} {L : List Assn}
theorem SatL.foc (h : SatL H L) (i : Nat) : Sat H (nth i L * star (del i L)) := by unfold SatL at h; rw [star_focus i L] at h; exact h
theorem SatL.back {i : Nat} {A : Assn} (h : Sat H (A * star (del i L))) : SatL H (put i A L) := by unfold SatL; rw [star_put]; exact h
theorem SatL.ord (h : SatL H L) (is : List Nat) (hn : is.Nodup) : SatL H (ordL is L) := by
  have h2 := ord_sat is L emp hn (by rw [sep_emp]; exact h)
  rw [sep_emp] at h2
  exact h2
/-- The first n in another order (or less of them), the rest as it is. -/
theorem SatL.ordt (h : SatL H L) (is : List Nat) (n : Nat) (hn : is.Nodup) (hl : ∀ i ∈ is, i < n) : SatL H (ordT is n L) := by
  unfold SatL at *
  rw [take_drop n L, star_append] at h
  have h2 := ord_sat is _ _ hn h
  rw [ordT_eq, star_append]
  rw [ordL_congr (L' := L) fun j hj => nth_take L (hl j hj)] at h2
  exact h2
theorem SatL.tl {A : Assn} (h : SatL H (A :: L)) : SatL H L := Sat.drop' h
theorem SatL.consP {p : Prop} (h : SatL H (pur p :: L)) : p ∧ SatL H L := sat_pur.1 h
theorem SatL.pur {p : Prop} (h : SatL H L) (hp : p) : SatL H (pur p :: L) := sat_pur.2 ⟨hp, h⟩
theorem SatL.mono {A B : Assn} (h : SatL H (A :: L)) (hk : ∀ h, A h → B h) : SatL H (B :: L) := Sat.frame h hk
theorem SatL.push (h : SatL H L) (o : Obj) : SatL (H.push o) (pt H.size o :: L) := Sat.push h o

/-- New blocks alone. -/
def Grow (H H' : Heap) : Prop := ∀ b, b < H.size → H'[b]? = H[b]?
theorem Grow.refl (H : Heap) : Grow H H := fun _ _ => rfl
theorem Grow.size {H H' : Heap} (h : Grow H H') : H.size ≤ H'.size := by
  rcases Nat.lt_or_ge H'.size H.size with hlt | hge
  · have := h H'.size hlt
    simp [hlt] at this
  · exact hge
theorem Grow.trans {H H' H'' : Heap} (h : Grow H H') (h2 : Grow H' H'') : Grow H H'' := fun b hb => (h2 b (Nat.lt_of_lt_of_le hb h.size)).trans (h b hb)
theorem Grow.push (H : Heap) (o : Obj) : Grow H (H.push o) := fun b hb => by rw [Array.getElem?_push, if_neg (by omega)]
theorem Sat.grow {H H' : Heap} {F : Assn} (h : Sat H F) (g : Grow H H') : Sat H' F := by
  obtain ⟨p, h1, h2⟩ := h
  exact ⟨p, fun i o hi => (g i (Array.getElem?_eq_some_iff.1 (h1 i o hi)).1).trans (h1 i o hi), h2⟩
theorem Sat.add {H : Heap} {F : Assn} {o : Obj} {b n : Nat} (hb : H[b]? = some o) (hf : ∃ H0 : Heap, H0.size = n ∧ Sat H0 F ∧ Grow H0 H ∧ n ≤ b) : Sat H (pt b o * F) := by
  obtain ⟨H0, rfl, ⟨p, h1, h2⟩, g, hle⟩ := hf
  have hlt : ∀ i o', p i = some o' → i < H0.size := fun i o' hi => (Array.getElem?_eq_some_iff.1 (h1 i o' hi)).1
  refine ⟨phUnion (fun i => if i = b then some o else none) p, fun i o1 h3 => ?_, _, p, fun i => ?_, rfl, rfl, h2⟩
  · simp only [phUnion] at h3
    by_cases hi : i = b
    · subst hi; simp at h3; subst h3; exact hb
    · simp only [if_neg hi] at h3
      exact (g i (hlt i o1 h3)).trans (h1 i o1 h3)
  · by_cases hi : i = b
    · subst hi
      right
      cases hp : p i with
      | none => rfl
      | some o' => have := hlt _ _ hp; omega
    · left; simp [hi]
theorem SatL.grow {H H' : Heap} (h : SatL H L) (g : Grow H H') : SatL H' L := Sat.grow h g
/-- A new block, behind a growth. -/
theorem SatL.new {H H' : Heap} {b : Nat} {o : Obj} (h : SatL H L) (g : Grow H H') (hb : H.size ≤ b) (ho : H'[b]? = some o) : SatL H' (pt b o :: L) :=
  Sat.add ho ⟨H, rfl, h, g, hb⟩

theorem lget_eq' {α : Type} (l : List α) (n : Nat) : lget l n = l[n]? := by
  induction l generalizing n with
  | nil => simp [lget]
  | cons a r ih => cases n <;> simp [lget, ih]

theorem Sat.rdc {H : Heap} {A F : Assn} (h : Sat H (A * F)) {b e : Nat} {cs : List Value} (hA : A = cellsA b cs e) (o : Nat) : cellAt H b o = lget cs o := by
  subst hA
  rw [h.cell, lget_eq']
/-- What stands in the cells of a block. -/
theorem SatL.rd (h : SatL H L) (i : Nat) {b e : Nat} {cs : List Value} (hA : nth i L = cellsA b cs e) (o : Nat) : cellAt H b o = lget cs o := (h.foc i).rdc hA o
theorem SatL.can (h : SatL H L) (i : Nat) {b e : Nat} {cs : List Value} (hA : nth i L = cellsA b cs e) (o : Nat) (vs : List Value) (hl : o + vs.length ≤ cs.length) : canSet H b o vs := by
  have := h.foc i
  rw [hA] at this
  exact this.can vs o hl
theorem SatL.set (h : SatL H L) (i : Nat) {b e : Nat} {cs : List Value} (hA : nth i L = cellsA b cs e) (o : Nat) (vs : List Value) : SatL (setAll H b o vs) (put i (cellsA b (setsL cs o vs) e) L) := by
  have := h.foc i
  rw [hA] at this
  exact SatL.back (Sat.sets vs o this)
/-- The memory that was there at the beginning. -/
theorem SatL.was (h : SatL H L) (i : Nat) {H0 : Heap} (hA : nth i L = old H0) {b : Nat} (hb : b < H0.size) : H[b]? = H0[b]? := by
  have := h.foc i
  rw [hA] at this
  exact this.was hb
theorem SatL.cell0 (h : SatL H L) (i : Nat) {H0 : Heap} (hA : nth i L = old H0) {b o : Nat} {v : Value} (hc : cellAt H0 b o = some v) : cellAt H b o = some v := by
  have := h.foc i
  rw [hA] at this
  exact this.cell_old hc
end

theorem cellAt_push {H : Heap} {x : Obj} {b o : Nat} {v : Value} (h : cellAt H b o = some v) : cellAt (H.push x) b o = some v := by
  have hb : b < H.size := by
    unfold cellAt at h
    rcases Nat.lt_or_ge b H.size with hlt | hge
    · exact hlt
    · simp [Array.getElem?_eq_none hge] at h
  unfold cellAt at *
  rw [Grow.push H x b hb]; exact h
theorem cellAt_grow {H H' : Heap} {b o : Nat} {v : Value} (g : Grow H H') (h : cellAt H b o = some v) : cellAt H' b o = some v := by
  have hb : b < H.size := by
    unfold cellAt at h
    rcases Nat.lt_or_ge b H.size with hlt | hge
    · exact hlt
    · simp [Array.getElem?_eq_none hge] at h
  unfold cellAt at *
  rw [g b hb]; exact h
theorem cellsAre_grow {H H' : Heap} {b : Nat} (g : Grow H H') : ∀ {o : Nat} {vs : List Value}, cellsAre H b o vs → cellsAre H' b o vs
  | _, [], _ => trivial
  | _, [v], h => cellAt_grow g h
  | o, v :: u :: r, h => ⟨cellAt_grow g h.1, cellsAre_grow (o := o + 1) (vs := u :: r) g h.2⟩
end Go.Nm
