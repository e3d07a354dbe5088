/-
  Slices of structs: rows of cells, so many for each element.
-/
import Derived.Test.YtomdcdfcdeaabaaGreatSA
set_option linter.unusedVariables false
set_option linter.unusedSimpArgs false
namespace Go.Nm
open Go

section
variable {α : Type} {enc : α → List Value} {sz : Nat} {xs ys : List α} {H : Heap} {a : Option Addr}
def flat (enc : α → List Value) (xs : List α) : List Value := xs.flatMap enc
@[simp] theorem flat_nil : flat enc ([] : List α) = [] := rfl
theorem flat_cons (x : α) : flat enc (x :: xs) = enc x ++ flat enc xs := rfl
theorem flat_append : flat enc (xs ++ ys) = flat enc xs ++ flat enc ys := by simp [flat]
theorem flat_one (x : α) : flat enc [x] = enc x := by simp [flat]
theorem flat_length (he : ∀ x, (enc x).length = sz) : ∀ xs : List α, (flat enc xs).length = xs.length * sz
  | [] => by simp
  | x :: r => by rw [flat_cons, List.length_append, he, flat_length he r, List.length_cons, Nat.add_mul]; omega
theorem flat_drop (he : ∀ x, (enc x).length = sz) : ∀ (k : Nat) (xs : List α), (flat enc xs).drop (k * sz) = flat enc (xs.drop k)
  | 0, xs => by simp
  | k + 1, [] => by simp
  | k + 1, x :: r => by
    rw [flat_cons, List.drop_succ_cons, ← flat_drop he k r, Nat.add_mul, Nat.one_mul, Nat.add_comm]
    rw [← he x, List.drop_append]
    simp
theorem flat_take (he : ∀ x, (enc x).length = sz) : ∀ (k : Nat) (xs : List α), (flat enc xs).take (k * sz) = flat enc (xs.take k)
  | 0, xs => by simp
  | k + 1, [] => by simp
  | k + 1, x :: r => by
    rw [flat_cons, List.take_succ_cons, flat_cons, ← flat_take he k r, Nat.add_mul, Nat.one_mul, Nat.add_comm]
    rw [← he x, List.take_append, List.take_of_length_le (by omega), Nat.add_sub_cancel_left]
theorem lget_append_left {β : Type} : ∀ {l r : List β} {j : Nat}, j < l.length → lget (l ++ r) j = lget l j := by
  intro l r j h; rw [lget_eq', lget_eq', List.getElem?_append_left h]
theorem lget_append_right {β : Type} {l r : List β} (j : Nat) : lget (l ++ r) (l.length + j) = lget r j := by
  rw [lget_eq', lget_eq', List.getElem?_append_right (by omega), Nat.add_sub_cancel_left]
theorem lget_flat (he : ∀ x, (enc x).length = sz) : ∀ {xs : List α} {k : Nat} (hk : k < xs.length) (f : Nat), f < sz → lget (flat enc xs) (k * sz + f) = lget (enc xs[k]) f
  | x :: r, 0, _, f, hf => by rw [Nat.zero_mul, Nat.zero_add, flat_cons, lget_append_left (by rw [he]; exact hf)]; rfl
  | x :: r, k + 1, hk, f, hf => by
    rw [flat_cons, show (k + 1) * sz + f = (enc x).length + (k * sz + f) by rw [he, Nat.add_mul]; omega, lget_append_right, lget_flat he (by simpa using hk) f hf]; rfl
theorem rdS.el (h : rdS H a (flat enc xs)) (he : ∀ x, (enc x).length = sz) {k : Nat} (hk : k < xs.length) (f : Nat) {v : Value} (hv : lget (enc xs[k]) f = some v) :
    cellAt H (adrB a) (adrO a + k * sz + f) = some v := by
  have hf : f < sz := by rw [← he xs[k]]; exact lget_lt hv
  have := (h (k * sz + f) v (by rw [lget_flat he hk f hf]; exact hv)).2
  rwa [← Nat.add_assoc] at this
theorem rdS.el0 (h : rdS H a (flat enc xs)) (he : ∀ x, (enc x).length = sz) {k : Nat} (hk : k < xs.length) {v : Value} (hv : lget (enc xs[k]) 0 = some v) :
    cellAt H (adrB a) (adrO a + k * sz) = some v := h.el he hk 0 hv
theorem rdS.some (h : rdS H a (flat enc xs)) (he : ∀ x, (enc x).length = sz) (hs : 0 < sz) {k : Nat} (hk : k < xs.length) : a = some ⟨adrB a, adrO a, none⟩ := by
  have h0 : 0 < (flat enc xs).length := by rw [flat_length he]; exact Nat.mul_pos (by omega) hs
  exact (h 0 _ (lget_some h0)).1
theorem cellsAre_of : ∀ {vs : List Value} {b o : Nat}, (∀ f v, lget vs f = some v → cellAt H b (o + f) = some v) → cellsAre H b o vs
  | [], _, _, _ => trivial
  | [v], b, o, h => h 0 v rfl
  | v :: u :: r, b, o, h => ⟨h 0 v rfl, cellsAre_of fun f w hf => by have := h (f + 1) w hf; rwa [show o + (f + 1) = o + 1 + f by omega] at this⟩
theorem rdS.els (h : rdS H a (flat enc xs)) (he : ∀ x, (enc x).length = sz) {k : Nat} (hk : k < xs.length) : cellsAre H (adrB a) (adrO a + k * sz) (enc xs[k]) :=
  cellsAre_of fun f v hf => h.el he hk f hf
theorem setsL_append_left : ∀ (vs l r : List Value) (o : Nat), o + vs.length ≤ l.length → setsL (l ++ r) o vs = setsL l o vs ++ r
  | [], _, _, _, _ => rfl
  | v :: vs, l, r, o, h => by
    simp only [List.length_cons] at h
    simp only [setsL]
    rw [List.set_append_left _ _ (by omega), setsL_append_left vs _ r (o + 1) (by simp; omega)]
theorem setsL_append_right : ∀ (vs l r : List Value) (o : Nat), setsL (l ++ r) (l.length + o) vs = l ++ setsL r o vs
  | [], _, _, _ => rfl
  | v :: vs, l, r, o => by
    simp only [setsL]
    rw [List.set_append_right _ _ (by omega), Nat.add_sub_cancel_left, Nat.add_assoc, setsL_append_right vs l _ (o + 1)]
theorem setsL_all : ∀ (vs l : List Value), vs.length = l.length → setsL l 0 vs = vs := by
  intro vs l h
  have := setsL_room vs [] l (by omega)
  simp only [List.nil_append, List.length_nil] at this
  rw [this, List.drop_of_length_le (by omega), List.append_nil]
theorem flat_set (he : ∀ x, (enc x).length = sz) (y : α) : ∀ {xs : List α} {k : Nat}, k < xs.length → setsL (flat enc xs) (k * sz) (enc y) = flat enc (xs.set k y)
  | x :: r, 0, _ => by
    rw [Nat.zero_mul, flat_cons, List.set_cons_zero, flat_cons, setsL_append_left _ _ _ _ (by rw [he, he]; omega), setsL_all _ _ (by rw [he, he])]
  | x :: r, k + 1, hk => by
    rw [List.set_cons_succ, flat_cons, flat_cons, ← flat_set he y (by simpa using hk), show (k + 1) * sz = (enc x).length + k * sz by rw [he, Nat.add_mul]; omega, setsL_append_right]
/-- Some fields of an element are set. -/
theorem flat_setf (he : ∀ x, (enc x).length = sz) (y : α) (vs : List Value) (f : Nat) : ∀ {xs : List α} {k : Nat} (hk : k < xs.length), f + vs.length ≤ sz → setsL (enc xs[k]) f vs = enc y → setsL (flat enc xs) (k * sz + f) vs = flat enc (xs.set k y)
  | x :: r, 0, _, hl, h => by
    rw [Nat.zero_mul, Nat.zero_add, flat_cons, List.set_cons_zero, flat_cons, setsL_append_left _ _ _ _ (by rw [he]; omega)]
    exact congrArg (· ++ flat enc r) h
  | x :: r, k + 1, hk, hl, h => by
    rw [List.set_cons_succ, flat_cons, flat_cons, ← flat_setf he y vs f (xs := r) (k := k) (by simpa using hk) hl h, show (k + 1) * sz + f = (enc x).length + (k * sz + f) by rw [he, Nat.add_mul]; omega, setsL_append_right]
theorem plain_append : ∀ {l r : List Value}, plainCells l = true → plainCells r = true → plainCells (l ++ r) = true
  | [], r, _, h => h
  | v :: l, r, h, h2 => by
    have := plainCells_cons h
    have ih := plain_append this.2 h2
    cases v <;> simp [plainCells] at h ⊢ <;> exact ih
theorem flat_plain (hp : ∀ x, plainCells (enc x) = true) : ∀ xs : List α, plainCells (flat enc xs) = true
  | [] => rfl
  | x :: r => plain_append (hp x) (flat_plain hp r)
end

section
variable {H : Heap} {L : List Assn} {e sz n c : Nat} {a : Option Addr} {cs : List Value}
/-- x[k:]. -/
theorem SatL.sl_drop (h : SatL H L) (i : Nat) (hA : nth i L = slA e sz a n c cs) (k : Nat) (hk : k ≤ n) : SatL H (put i (slA e sz (slB a k c sz) (n - k) (c - k) (cs.drop (k * sz))) L) := by
  have h2 := h.foc i
  rw [hA] at h2
  refine SatL.back (i := i) (L := L) (h2.frame fun p hp => ?_)
  obtain ⟨hl, hp⟩ := hp
  refine ⟨by rw [List.length_drop, hl, Nat.sub_mul], ?_⟩
  rcases hp with ⟨h3, h4, h5, h6⟩ | ⟨b, pre, post, e', fr, h3, h4, h5, hf, h6⟩
  · left; subst h3; subst h4; subst h5
    exact ⟨by simp [slB], by omega, by omega, h6⟩
  · right
    subst h3
    unfold slB
    by_cases e : c = k
    · rw [if_pos e]
      have : n = k := by omega
      subst this
      have hd : cs.drop (n * sz) = [] := by rw [← hl]; simp
      refine ⟨b, pre, cs ++ post, e', fr, rfl, by omega, by rw [show c - n - (n - n) = 0 by omega]; omega, fun _ i h7 h8 => by rw [show c - n = 0 by omega] at h8; omega, ?_⟩
      rw [hd]
      simpa using h6
    · rw [if_neg e]
      refine ⟨b, pre ++ cs.take (k * sz), post, e', fr, ?_, by omega, ?_, fun _ i h7 h8 => ?_, ?_⟩
      · have : k * sz ≤ n * sz := Nat.mul_le_mul_right _ hk
        simp only [Option.map_some, Addr_add, List.length_append, List.length_take]
        rw [Nat.min_eq_left (by omega)]
      · rw [show c - k - (n - k) = c - n by omega]; exact h5
      · have h9 : k * sz ≤ n * sz := Nat.mul_le_mul_right _ hk
        have h10 : (c - k) * sz + k * sz = c * sz := by rw [← Nat.add_mul]; congr 1; omega
        rw [List.length_append, List.length_take, Nat.min_eq_left (by omega)] at h7 h8
        exact hf rfl i (by omega) (by omega)
      · have : pre ++ cs.take (k * sz) ++ cs.drop (k * sz) ++ post = pre ++ cs ++ post := by
          rw [List.append_assoc, List.append_assoc, ← List.append_assoc (cs.take _), List.take_append_drop, List.append_assoc]
        rw [this]; exact h6
/-- x[:k]. -/
theorem SatL.sl_take (h : SatL H L) (i : Nat) (hA : nth i L = slA e sz a n c cs) (k : Nat) (hk : k ≤ n) : SatL H (put i (slA e sz a k c (cs.take (k * sz))) L) := by
  have h2 := h.foc i
  rw [hA] at h2
  refine SatL.back (i := i) (L := L) (h2.frame fun p hp => ?_)
  obtain ⟨hl, hp⟩ := hp
  have hkn : k * sz ≤ n * sz := Nat.mul_le_mul_right _ hk
  refine ⟨by rw [List.length_take, hl]; omega, ?_⟩
  rcases hp with ⟨h3, h4, h5, h6⟩ | ⟨b, pre, post, e', fr, h3, h4, h5, hf, h6⟩
  · left; exact ⟨h3, by omega, h5, h6⟩
  · right
    refine ⟨b, pre, cs.drop (k * sz) ++ post, e', fr, h3, by omega, ?_, hf, ?_⟩
    · have : (c - k) * sz = (c - n) * sz + (n - k) * sz := by rw [← Nat.add_mul]; congr 1; omega
      rw [List.length_append, List.length_drop, hl, this, ← Nat.sub_mul]; omega
    · have : pre ++ cs.take (k * sz) ++ (cs.drop (k * sz) ++ post) = pre ++ cs ++ post := by
        rw [List.append_assoc, ← List.append_assoc (cs.take _), List.take_append_drop, ← List.append_assoc]
      rw [this]; exact h6
end
end Go.Nm
