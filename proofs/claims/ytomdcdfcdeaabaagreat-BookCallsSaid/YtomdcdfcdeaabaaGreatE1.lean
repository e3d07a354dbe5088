/-
  The engine, part 1: what the conditions of single operations are worth.
-/
import Derived.Test.YtomdcdfcdeaabaaGreatE0
namespace Go.Nm
open Go

theorem Rest.refl (w : World) : Rest w w := ⟨rfl, rfl, rfl⟩
theorem Rest.trans {a b c : World} (h : Rest a b) (k : Rest b c) : Rest a c := ⟨k.os.trans h.os, k.tape.trans h.tape, k.output.trans h.output⟩

theorem cell?_cellAt (w : World) (b o : Nat) : w.cell? ⟨b, o, none⟩ = cellAt w.heap b o := by
  simp only [World.cell?, cellAt]
  cases w.heap[b]? with
  | none => rfl
  | some x => cases x <;> simp
theorem frozen?_frozenAt (w : World) (b o : Nat) : w.frozen? ⟨b, o, none⟩ = frozenAt w.heap b o := rfl
theorem setCell_heap (w : World) (b o : Nat) (v : Value) : (w.setCell ⟨b, o, none⟩ v).heap = setAt w.heap b o v := by
  simp only [World.setCell, setAt]
  rfl

theorem run_underlying' {P : Program} {t : TypeId} {d : TypeDesc} (h : P.underlying t = some d) (w : World) : (underlying t).run P w = .ok d w := by
  simp [underlying, h]
theorem run_sizeOf' (P : Program) (t : TypeId) (h : P.info? t ≠ none) (w : World) : (sizeOf t).run P w = .ok (P.cellsOf t) w := by
  cases hi : P.info? t with
  | none => exact absurd hi h
  | some i => simp [sizeOf, typeInfo, hi, Program.cellsOf]
theorem info_of_underlying {P : Program} {t : TypeId} {d : TypeDesc} (h : P.underlying t = some d) : P.info? t ≠ none := by
  intro h0; simp [Program.underlying, h0] at h

theorem lget_eq {α : Type} (l : List α) (n : Nat) : lget l n = l[n]? := by
  induction l generalizing n with
  | nil => simp [lget]
  | cons a r ih => cases n <;> simp [lget, ih]
theorem lset_eq {α : Type} (l : List α) (n : Nat) (x : α) : lset l n x = l.set n x := by
  induction l generalizing n with
  | nil => simp [lset]
  | cons a r ih => cases n <;> simp [lset, ih]

theorem pickV_true (a b : Value) : pickV true a b = a := by unfold pickV; split <;> rfl
theorem pickV_false (a b : Value) : pickV false a b = b := by unfold pickV; split <;> rfl

section
variable {X : Ctx} {ρ : Operand → Value} {ev : Operand → Option Value} {pk : Operand → Operand → Operand → Option (Bool × Value × Value)} {c : Option Prop} {G : Prop}

theorem withV_some {α : Type} {o : Option α} {K : α → Prop} (h : withV o K) : ∃ v, o = some v ∧ K v := by
  cases o with
  | none => exact h.elim
  | some v => exact ⟨v, rfl, h⟩

theorem evList_map (hev : ∀ x v, ev x = some v → G → ρ x = v) : ∀ (l : List Operand) (vs : List Value), evList ev l = some vs → G → l.map ρ = vs
  | [], vs, h, _ => by simp [evList] at h; simp [h]
  | x :: r, vs, h, g => by
    simp only [evList] at h
    cases h1 : ev x with
    | none => simp [h1] at h
    | some v => cases h2 : evList ev r with
      | none => simp [h1, h2] at h
      | some vs' =>
        simp only [h1, h2, Option.some.injEq] at h
        subst h
        simp [hev x v h1 g, evList_map hev r vs' h2 g]
theorem evParts_map (hev : ∀ x v, ev x = some v → G → ρ x = v) : ∀ (l : List (Nat × Operand)) (vs : List (Nat × Value)), evParts ev l = some vs → G → l.map (fun p => (p.1, ρ p.2)) = vs
  | [], vs, h, _ => by simp [evParts] at h; simp [h]
  | (i, x) :: r, vs, h, g => by
    simp only [evParts] at h
    cases h1 : ev x with
    | none => simp [h1] at h
    | some v => cases h2 : evParts ev r with
      | none => simp [h1, h2] at h
      | some vs' =>
        simp only [h1, h2, Option.some.injEq] at h
        subst h
        simp [hev x v h1 g, evParts_map hev r vs' h2 g]
theorem evOpt_map (hev : ∀ x v, ev x = some v → G → ρ x = v) (o : Option Operand) (v : Option Value) (h : evOpt ev o = some v) (g : G) : o.map ρ = v := by
  cases o with
  | none => simp [evOpt] at h; simp [h]
  | some x => cases h1 : ev x with
    | none => simp [evOpt, h1] at h
    | some u => simp [evOpt, h1] at h; subst h; simp [hev x u h1 g]

/-! ### integers and texts -/
theorem binInt_sound {P : Program} (op : BinOp) (t : TypeId) (k : IntKind) (x y : Int) {K : Value → Prop} (hg : ∀ p, gt c p → G → p) (h : binInt op k x y c K) :
    ∃ v, K v ∧ (G → ∀ w, (Go.binOp op t (.int k x) (.int k y)).run P w = .ok v w) := by
  cases op <;> simp only [binInt] at h
  case quo => exact ⟨_, h.2, fun g w => by simp [Go.binOp, Op.intDiv, hg _ h.1 g]⟩
  case rem => exact ⟨_, h.2, fun g w => by simp [Go.binOp, Op.intDiv, hg _ h.1 g]⟩
  case shl => exact ⟨_, h.2, fun g w => by have := hg _ h.1 g; simp [Go.binOp, Op.shift]; omega⟩
  case shr => exact ⟨_, h.2, fun g w => by have := hg _ h.1 g; simp [Go.binOp, Op.shift]; omega⟩
  case eql => exact ⟨_, h, fun _ w => by simp [Go.binOp, Op.intCmp]; by_cases e : x = y <;> simp [e]⟩
  case neq => exact ⟨_, h, fun _ w => by simp [Go.binOp, Op.intCmp]; by_cases e : x = y <;> simp [e]⟩
  all_goals exact ⟨_, h, fun _ w => by simp [Go.binOp, Op.intArith, Op.intBits, Op.intCmp, bitsV]⟩

theorem binStr_sound {P : Program} (op : BinOp) (t : TypeId) (x y : ByteArray) {K : Value → Prop} (hg : ∀ p, gt c p → G → p) (h : binStr op x y c K) :
    ∃ v, K v ∧ (G → ∀ w, (Go.binOp op t (.string x) (.string y)).run P w = .ok v w) := by
  cases op <;> simp only [binStr] at h
  case add => exact ⟨_, h.2, fun g w => by
    have := hg _ h.1 g
    simp only [Go.binOp, Op.stringOp]
    rw [if_neg (by omega)]; rfl⟩
  all_goals exact ⟨_, h, fun _ w => by simp [Go.binOp, Op.stringOp]⟩

theorem eqGuard_pass (op : BinOp) (t : TypeId) (ox oy : Operand) (a b : Value) (P : Program) (w : World) (h1 : a ≠ .nilIface ∨ b ≠ .nilIface) (h2 : ∀ x y, a ≠ .agg x ∨ b ≠ .agg y) : (eqGuard op t ox oy a b).run P w = .ok () w := by
  unfold eqGuard
  cases op
  case eql =>
    rw [if_neg (by simp)]
    split
    · simp at h1
    · rename_i x y; have := h2 x y; simp at this
    · rfl
  case neq =>
    rw [if_neg (by simp)]
    split
    · simp at h1
    · rename_i x y; have := h2 x y; simp at this
    · rfl
  all_goals rfl

theorem equal_succ (t : TypeId) (x y : Value) : Op.equal t x y = Op.equalIn (9999 + 1) t x y := rfl

theorem eqNil_in {P : Program} {t : TypeId} {d : TypeDesc} {x y : Value} {b : Bool} (hd : P.underlying t = some d) (h : eqNil (some d) x y = some b) (n : Nat) (w : World) :
    (Op.equalIn (n + 1) t x y).run P w = .ok b w ∧ (x ≠ .nilIface ∨ y ≠ .nilIface) ∧ (∀ u v, x ≠ .agg u ∨ y ≠ .agg v) := by
  unfold eqNil at h
  split at h
  all_goals (try cases h)
  all_goals (rename_i hd'; cases hd')
  case h_2 => rename_i a; cases a <;> simp [Op.equalIn, run_underlying' hd]
  case h_3 => rename_i a _ _ _ _; cases a <;> simp [Op.equalIn, run_underlying' hd]
  case h_4 => rename_i a; cases a <;> simp [Op.equalIn, run_underlying' hd]
  all_goals simp [Op.equalIn, run_underlying' hd]

theorem eqNil_sound {P : Program} {t : TypeId} {x y : Value} {b : Bool} (h : eqNil (P.underlying t) x y = some b) (ox oy : Operand) (op : BinOp) (w : World) :
    (Op.equal t x y).run P w = .ok b w ∧ (eqGuard op t ox oy x y).run P w = .ok () w := by
  cases hd : P.underlying t with
  | none => rw [hd] at h; simp [eqNil] at h
  | some d =>
    rw [hd] at h
    rw [equal_succ]
    obtain ⟨h1, h2, h3⟩ := eqNil_in hd h 9999 w
    exact ⟨h1, eqGuard_pass _ _ _ _ _ _ _ _ h2 h3⟩
end
end Go.Nm
