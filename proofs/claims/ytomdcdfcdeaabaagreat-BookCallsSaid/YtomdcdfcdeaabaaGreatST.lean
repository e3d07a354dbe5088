/-
  Steps: how a condition's next part is met by a row of assertions.
-/
import Derived.Test.YtomdcdfcdeaabaaGreatSF
import Derived.Test.YtomdcdfcdeaabaaGreatKL
import Derived.Test.YtomdcdfcdeaabaaGreatEQ
set_option linter.unusedVariables false
set_option linter.unusedSimpArgs false
namespace Go.Nm
open Go
theorem w64 {x : Int} (h1 : -9223372036854775808 ≤ x) (h2 : x ≤ 9223372036854775807) : IntKind.i64.wrap x = x := IntWalk.i64_in x (by omega)
def zeroAt (P : Program) (e : TypeId) : Option Value := match P.info? e with | some i => i.zero | none => none
theorem mapT_of {α : Type} {P : Program} {t k e : Nat} {venc : α → Value} {z : α} (h1 : P.underlying t = some (.map k e)) (h2 : zeroAt P e = some (venc z)) : MapT P t k e venc z := by
  refine ⟨h1, ?_⟩
  unfold zeroAt at h2
  split at h2
  · rename_i i hi; exact ⟨i, hi, h2⟩
  · cases h2
theorem lget_map' {α : Type} {enc : α → Value} : ∀ (xs : List α) (j : Nat), lget (xs.map enc) j = (lget xs j).map enc
  | [], _ => rfl
  | _ :: _, 0 => rfl
  | _ :: r, j + 1 => lget_map' r j
/-- Cell j of a row of plain values. -/
theorem rdS.at {α : Type} {H : Heap} {a : Option Addr} {enc : α → Value} {xs : List α} (h : rdS H a (xs.map enc)) {j : Nat} (hj : j < xs.length) :
    a = Option.some ⟨adrB a, adrO a, none⟩ ∧ cellAt H (adrB a) (adrO a + j) = Option.some (enc xs[j]) := h j _ (by rw [lget_map', lget_some hj]; rfl)
theorem plain_ints (k : IntKind) : ∀ (l : List Int), plainCells (l.map (Value.int k)) = true
  | [] => rfl
  | a :: r => plain_ints k r

section
variable {H : Heap} {L : List Assn}
theorem SatL.al {Q : Nat → Heap → Prop} {cs : List Value} {e : TypeId} (h : SatL H L) (k : ∀ b H', SatL H' (cellsA b cs e :: L) → Q b H') : ∀ (b : Nat) (H' : Heap), b = H.size → H' = H.push (.cells cs.toArray e) → Q b H' := by
  rintro b H' rfl rfl
  exact k _ _ (h.push _)
theorem SatL.alm {κ α : Type} {Q : Nat → Heap → Prop} (h : SatL H L) (kenc : κ → Value) (venc : α → Value) (k : ∀ b H', SatL H' (mapA kenc venc b [] :: L) → Q b H') : ∀ (b : Nat) (H' : Heap), b = H.size → H' = H.push (.map #[] 0) → Q b H' := by
  rintro b H' rfl rfl
  exact k _ _ ((h.push _).mp_new kenc venc)
theorem SatL.st {Q : Heap → Prop} {b o e : Nat} {vs cs : List Value} (h : SatL H L) (i : Nat) (hA : nth i L = cellsA b cs e) (hl : Nat.ble (o + vs.length) cs.length = true) (k : ∀ H', SatL H' (put i (cellsA b (setsL cs o vs) e) L) → Q H') :
    canSet H b o vs ∧ ∀ H', H' = setAll H b o vs → Q H' := by
  refine ⟨h.can i hA o vs (Nat.le_of_ble_eq_true hl), ?_⟩
  rintro H' rfl
  exact k _ (h.set i hA o vs)
theorem cellsAre_of' : ∀ {vs : List Value} {b o : Nat}, (∀ f v, lget vs f = some v → cellAt H b (o + f) = some v) → cellsAre H b o vs := fun h => cellsAre_of h
theorem lget_drop_take {α : Type} : ∀ (l : List α) (o n f : Nat), f < n → lget ((l.drop o).take n) f = lget l (o + f) := by
  intro l o n f hf
  rw [lget_eq', lget_eq', List.getElem?_take_of_lt hf, List.getElem?_drop]
theorem SatL.rds {b o e : Nat} {vs cs : List Value} (h : SatL H L) (i : Nat) (hA : nth i L = cellsA b cs e) (hv : (cs.drop o).take vs.length = vs) : cellsAre H b o vs :=
  cellsAre_of fun f v hf => by
    rw [h.rd i hA, ← lget_drop_take cs o vs.length f (lget_lt hf), hv]; exact hf
theorem SatL.getO {b : Nat} {o : Obj} (h : SatL H L) (i : Nat) (hA : nth i L = pt b o) : H[b]? = some o := by
  have := h.foc i
  rw [hA] at this
  exact this.get
theorem SatL.setO {b : Nat} {o : Obj} (h : SatL H L) (i : Nat) (hA : nth i L = pt b o) (o' : Obj) : SatL (H.setIfInBounds b o') (put i (pt b o') L) := by
  have := h.foc i
  rw [hA] at this
  exact SatL.back (upd_set this)
theorem SatL.stl {Q : Heap → Prop} {b : Nat} {R R' : Loop} (h : SatL H L) (i : Nat) (hA : nth i L = pt b (.loop R)) (k : ∀ H', SatL H' (put i (pt b (.loop R')) L) → Q H') : ∀ H', H' = setLoop H b R' → Q H' := by
  rintro H' rfl
  exact k _ (h.setO i hA _)
theorem SatL.rng (h : SatL H L) (R : Loop) : SatL ((H.push (.deferred (some []))).push (.loop R)) (pt (H.size + 1) (.loop R) :: pt H.size (.deferred (some [])) :: L) := by
  have := (h.push (.deferred (some []))).push (.loop R)
  rwa [Array.size_push] at this
theorem satL_star {A : List Assn} : SatL H (star A :: L) ↔ SatL H (A ++ L) := by
  unfold SatL
  rw [star_append]; exact Iff.rfl
theorem SatL.open {A : List Assn} (h : SatL H (star A :: L)) : SatL H (A ++ L) := satL_star.1 h
theorem SatL.shut (A : List Assn) (h : SatL H (A ++ L)) : SatL H (star A :: L) := satL_star.2 h
theorem satL_ex {α : Type} {A : α → Assn} : SatL H (exS A :: L) ↔ ∃ x, SatL H (A x :: L) := sat_exs
theorem nn_some {b o : Nat} {p : Prop} (h : p) : NN (some ⟨b, o, none⟩) p := h
end
end Go.Nm
namespace Go.Nm
open Go
/-! ### a struct that ends with an array of structs -/
section
variable {H : Heap} {L : List Assn} {α : Type} {hd : List Value} {enc : α → List Value} {xs : List α} {sz b e o : Nat}
theorem SatL.row_rd (h : SatL H L) (i : Nat) (hA : nth i L = cellsA b (hd ++ flat enc xs) e) (he : ∀ x, (enc x).length = sz) {k : Nat} (hk : k < xs.length) (f : Nat) {v : Value} (hv : lget (enc xs[k]) f = some v) (ho : o = hd.length + (k * sz + f)) :
    cellAt H b o = some v := by
  subst ho
  rw [h.rd i hA, lget_append_right, lget_flat he hk f (by have := lget_lt hv; rw [he] at this; exact this)]
  exact hv
theorem SatL.row_rds (h : SatL H L) (i : Nat) (hA : nth i L = cellsA b (hd ++ flat enc xs) e) (he : ∀ x, (enc x).length = sz) {k : Nat} (hk : k < xs.length) (ho : o = hd.length + k * sz) :
    cellsAre H b o (enc xs[k]) :=
  cellsAre_of fun f v hf => h.row_rd i hA he hk f hf (by rw [ho, Nat.add_assoc])
theorem SatL.row_st {Q : Heap → Prop} (h : SatL H L) (i : Nat) (hA : nth i L = cellsA b (hd ++ flat enc xs) e) (he : ∀ x, (enc x).length = sz) {k : Nat} (hk : k < xs.length) (ho : o = hd.length + k * sz) (y : α)
    (kq : ∀ H', SatL H' (put i (cellsA b (hd ++ flat enc (xs.set k y)) e) L) → Q H') : canSet H b o (enc y) ∧ ∀ H', H' = setAll H b o (enc y) → Q H' := by
  subst ho
  refine ⟨h.can i hA _ _ ?_, ?_⟩
  · rw [List.length_append, flat_length he, he]
    have : (k + 1) * sz ≤ xs.length * sz := Nat.mul_le_mul_right _ hk
    rw [Nat.succ_mul] at this
    omega
  · rintro H' rfl
    have := h.set i hA (hd.length + k * sz) (enc y)
    rw [setsL_append_right, flat_set he y hk] at this
    exact kq _ this
end
end Go.Nm
namespace Go.Nm
open Go
section
variable {κ α : Type} {kenc : κ → Value} {venc : α → Value} {r : Nat} {m : List (κ × α)} {H : Heap} {L : List Assn} {P : Program}
variable [DecidableEq κ] {t k e : Nat} {z : α} (T : MapT P t k e venc z) (KO : KeyOK P k kenc)
include T KO
theorem SatL.mp_get {x : κ} (h : SatL H L) (i : Nat) (hA : nth i L = mapA kenc venc r m) :
    ReadRun P (Instr.lookup t (.map (some r)) (kenc x) true) H (.tuple #[venc ((mlook x m).getD z), .bool (mlook x m).isSome]) := by
  have := h.mp_look T KO i hA (x := x)
  cases hm : mlook x m with
  | none => exact (this.2 hm).1
  | some v => exact (this.1 v hm).1
theorem SatL.mp_get1 {x : κ} (h : SatL H L) (i : Nat) (hA : nth i L = mapA kenc venc r m) :
    ReadRun P (Instr.lookup t (.map (some r)) (kenc x) false) H (venc ((mlook x m).getD z)) := by
  have := h.mp_look T KO i hA (x := x)
  cases hm : mlook x m with
  | none => exact (this.2 hm).2
  | some v => exact (this.1 v hm).2
end
end Go.Nm
namespace Go.Nm
open Go
/-- The number in a cell: for the measures of loops whose variables lie in memory. -/
def cellN (H : Heap) (b o : Nat) : Nat := match cellAt H b o with | some (.int _ v) => v.toNat | _ => 0
theorem cellN_of {H : Heap} {b o : Nat} {k : IntKind} {v : Int} (h : cellAt H b o = some (.int k v)) : cellN H b o = v.toNat := by unfold cellN; rw [h]
end Go.Nm
namespace Go.Nm
open Go
theorem loop_eta {R : Loop} (h1 : R.state = .ready) (h2 : R.pending = none) : { R with state := .ready, pending := none } = R := by
  cases R; simp only at h1 h2; subst h1; subst h2; rfl
end Go.Nm
namespace Go.Nm
open Go
theorem SatL.old_rd {H H0 : Heap} {L : List Assn} (h : SatL H L) (i : Nat) (hA : nth i L = old H0) {a : Option Addr} {cs : List Value} (hr : rdS H0 a cs) : rdS H a cs := fun j v hj => ⟨(hr j v hj).1, h.cell0 i hA (hr j v hj).2⟩
theorem SatL.old_grow {H H0 : Heap} {L : List Assn} (h : SatL H L) (i : Nat) (hA : nth i L = old H0) : Grow H0 H := fun b hb => h.was i hA hb
theorem SatL.ce_rd {H : Heap} {L : List Assn} (h : SatL H L) (i : Nat) {b e : Nat} {cs : List Value} (hA : nth i L = cellsA b cs e) : rdS H (some ⟨b, 0, none⟩) cs := fun j v hj => ⟨rfl, by
  simp only [adrB, adrO, Nat.zero_add]
  rw [h.rd i hA]; exact hj⟩
theorem sat0 (H : Heap) : SatL H [old H] := by unfold SatL star; exact (sat_start H).eq (by rw [star, sep_emp])
end Go.Nm
