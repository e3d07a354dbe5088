/-
  The engine, part 2: operations that look at no world.
-/
import Derived.Test.YtomdcdfcdeaabaaGreatE1
namespace Go.Nm
open Go

section
variable {X : Ctx} {ρ : Operand → Value} {ev : Operand → Option Value} {c : Option Prop} {G : Prop} {P : Program} {K : Value → Prop}

theorem binP_sound (op : BinOp) (t : TypeId) (x y : Value) (ox oy : Operand) (hg : ∀ p, gt c p → G → p) (h : binP P op t x y c K) :
    ∃ v, K v ∧ (G → ∀ w, (do eqGuard op t ox oy x y; Go.binOp op t x y : Sem Value).run P w = .ok v w) := by
  unfold binP at h
  split at h
  · rename_i k a k' b
    have he : ∀ w, (eqGuard op t ox oy (.int k a) (.int k' b)).run P w = .ok () w := fun w => eqGuard_pass _ _ _ _ _ _ _ _ (by simp) (by simp)
    split at h
    · rename_i hk; subst hk
      obtain ⟨v, h1, h2⟩ := binInt_sound (P := P) op t k a b hg h
      exact ⟨v, h1, fun g w => by simp [he, h2 g w]⟩
    · rename_i hk
      split at h
      · exact ⟨_, h.2, fun g w => by have := hg _ h.1 g; simp [he, Go.binOp, Op.shift]; omega⟩
      · exact ⟨_, h.2, fun g w => by have := hg _ h.1 g; simp [he, Go.binOp, Op.shift]; omega⟩
      · exact h.elim
  · rename_i a b
    have he : ∀ w, (eqGuard op t ox oy (.string a) (.string b)).run P w = .ok () w := fun w => eqGuard_pass _ _ _ _ _ _ _ _ (by simp) (by simp)
    obtain ⟨v, h1, h2⟩ := binStr_sound (P := P) op t a b hg h
    exact ⟨v, h1, fun g w => by simp [he, h2 g w]⟩
  · rename_i hi hs
    split at h
    · rename_i b hb
      refine ⟨_, h, fun _ w => ?_⟩
      obtain ⟨h1, h2⟩ := eqNil_sound hb ox oy .eql w
      have : (Go.binOp .eql t x y).run P w = .ok (.bool b) w := by
        unfold eqNil at hb
        split at hb <;> cases hb <;> (show Sem.run P (do pure (Value.bool (← Op.equal t _ _))) w = _; simp [h1])
      simp [h2, this]
    · rename_i b hb
      refine ⟨_, h, fun _ w => ?_⟩
      obtain ⟨h1, h2⟩ := eqNil_sound hb ox oy .neq w
      have : (Go.binOp .neq t x y).run P w = .ok (.bool (!b)) w := by
        unfold eqNil at hb
        split at hb <;> cases hb <;> (show Sem.run P (do pure (Value.bool (!(← Op.equal t _ _)))) w = _; simp [h1])
      simp [h2, this]
    · obtain ⟨b, h1, h2⟩ := h
      exact ⟨_, h2, fun g w => hg _ h1 g ox oy w⟩
    · exact h.elim

theorem unP_sound (op : UnOp) (x : Value) (h : unP op x K) : ∃ v, K v ∧ ∀ w, (Op.unary op x).run P w = .ok v w := by
  unfold unP at h
  split at h
  · exact ⟨_, h, fun w => by simp [Op.unary, Op.intArith]⟩
  · exact ⟨_, h, fun w => by simp [Op.unary, Op.intBits, bitsV]⟩
  · exact ⟨_, h, fun w => by simp [Op.unary]⟩
  · exact h.elim

theorem run_sliceBound (k : IntKind) (n : Int) (y : Nat) (code : BoundsCode) (w : World) (h : 0 ≤ n ∧ n ≤ (y : Int)) : (Instr.sliceBound (.int k n) y code).run P w = .ok n.toNat w := by
  simp [Instr.sliceBound, asIntOf, h]

/-- Both bounds of a slice expression. -/
theorem run_sliceBounds (isS : Bool) (len cap : Nat) (lo hi : Option Value) (l h : Int) (w : World)
    (hlo : lo = none ∧ l = 0 ∨ ∃ k, lo = some (.int k l)) (hhi : hi = none ∧ h = (len : Int) ∨ ∃ k, hi = some (.int k h))
    (hb : 0 ≤ l ∧ l ≤ h ∧ h ≤ (cap : Int)) : (Instr.sliceBounds isS len cap lo hi none).run P w = .ok (l.toNat, h.toNat, cap) w := by
  unfold Instr.sliceBounds
  rcases hhi with ⟨rfl, rfl⟩ | ⟨k, rfl⟩ <;> rcases hlo with ⟨rfl, rfl⟩ | ⟨k', rfl⟩
  · simp
  · simp [run_sliceBound k' l len _ w ⟨hb.1, hb.2.1⟩]
  · simp [run_sliceBound k h cap _ w ⟨by omega, hb.2.2⟩]
  · have := run_sliceBound (P := P) k' l h.toNat .sliceB w ⟨hb.1, by omega⟩
    simp [run_sliceBound k h cap _ w ⟨by omega, hb.2.2⟩, this]

theorem sliceBd_some {x : Value} {Kn : Int → Prop} (h : sliceBd x Kn) : ∃ k n, x = .int k n ∧ Kn n := by
  unfold sliceBd at h
  split at h
  · exact ⟨_, _, rfl, h⟩
  · exact h.elim

theorem sliceP_split {α : Type} {lo hi : Option Value} {len : Int} {go : Int → Int → Prop}
    (hx : match lo, hi with
      | some l, some h => sliceBd l fun l => sliceBd h fun h => go l h
      | some l, none => sliceBd l fun l => go l len
      | none, some h => sliceBd h fun h => go 0 h
      | none, none => go 0 len) (_ : α) :
    ∃ l h, go l h ∧ (lo = none ∧ l = 0 ∨ ∃ k, lo = some (.int k l)) ∧ (hi = none ∧ h = len ∨ ∃ k, hi = some (.int k h)) := by
  cases lo with
  | none => cases hi with
    | none => exact ⟨0, len, hx, .inl ⟨rfl, rfl⟩, .inl ⟨rfl, rfl⟩⟩
    | some b =>
      obtain ⟨k, n, hb, hx⟩ := sliceBd_some hx
      exact ⟨0, n, hx, .inl ⟨rfl, rfl⟩, .inr ⟨k, by rw [hb]⟩⟩
  | some a => cases hi with
    | none =>
      obtain ⟨k, n, ha, hx⟩ := sliceBd_some hx
      exact ⟨n, len, hx, .inr ⟨k, by rw [ha]⟩, .inl ⟨rfl, rfl⟩⟩
    | some b =>
      obtain ⟨k, n, ha, hx⟩ := sliceBd_some hx
      obtain ⟨k', n', hb, hx⟩ := sliceBd_some hx
      exact ⟨n, n', hx, .inr ⟨k, by rw [ha]⟩, .inr ⟨k', by rw [hb]⟩⟩

theorem sized_info {t : TypeId} {q : Prop} (h : sized P t q) : P.info? t ≠ none ∧ P.cellsOf t ≠ 0 ∧ q := by
  unfold sized at h
  split at h
  · exact h.elim
  · rename_i n hn
    refine ⟨fun h0 => ?_, by omega, h⟩
    simp [Program.cellsOf, h0] at hn
theorem info_underlying {t : TypeId} (h : P.info? t ≠ none) (hn : ∀ i n u, P.info? t = some i → i.desc = .named n u → P.info? u ≠ none) : P.underlying t ≠ none := by
  unfold Program.underlying
  cases hi : P.info? t with
  | none => exact absurd hi h
  | some i =>
    obtain ⟨desc, _, _, _, _, _, _, _, _, _⟩ := i
    cases desc <;> simp
    exact hn _ _ _ hi rfl

theorem sliceP_sound (t : TypeId) (x : Value) (lo hi : Option Value) (hg : ∀ p, gt c p → G → p) (h : sliceP P t x lo hi c K) :
    ∃ v, K v ∧ (G → ∀ w, (Instr.sliceAt t x lo hi none).run P w = .ok v w) := by
  unfold sliceP at h
  split at h
  · rename_i s ht
    obtain ⟨l, h', ⟨h1, h2⟩, hl, hh⟩ := sliceP_split h ()
    refine ⟨_, h2, fun g w => ?_⟩
    have hb := run_sliceBounds (P := P) false s.size s.size lo hi l h' w hl hh (hg _ h1 g)
    simp [Instr.sliceAt, Instr.slice, run_underlying' ht, hb]
  · rename_i e a len cap ht
    obtain ⟨hinf, hz, h⟩ := sized_info h
    obtain ⟨l, h', ⟨h1, h2⟩, hl, hh⟩ := sliceP_split h ()
    refine ⟨_, h2, fun g w => ?_⟩
    have hb := run_sliceBounds (P := P) true len cap lo hi l h' w hl hh (hg _ h1 g)
    simp [Instr.sliceAt, Instr.slice, run_underlying' ht, hb, run_sizeOf' P e hinf, slB]
  · rename_i n e a ht
    obtain ⟨hinf, hz, h⟩ := sized_info h
    obtain ⟨l, h', ⟨h1, h2⟩, hl, hh⟩ := sliceP_split h ()
    refine ⟨_, h2, fun g w => ?_⟩
    have hb := run_sliceBounds (P := P) false n n lo hi l h' w hl hh (hg _ h1 g)
    simp [Instr.sliceAt, Instr.sureAddr, run_underlying' ht, hb, run_sizeOf' P e hinf, slB]
    split <;> rfl
  · exact h.elim

theorem leaf_ex {l : Leaf} {Q : Value → Prop} (h : l.ex Q) : ∃ v, Q v := by
  cases l <;> simp only [Leaf.ex] at h
  case slice => obtain ⟨a, n, c, h⟩ := h; exact ⟨_, h⟩
  case fnv => obtain ⟨a, c, h⟩ := h; exact ⟨_, h⟩
  case adr => obtain ⟨a, c, h⟩ := h; exact ⟨_, h⟩
  all_goals (obtain ⟨a, h⟩ := h; exact ⟨_, h⟩)
theorem exLs_ex : ∀ {ls : List Leaf} {Q : List Value → Prop}, exLs ls Q → ∃ vs, Q vs
  | [], _, h => ⟨[], h⟩
  | l :: r, _, h => by
    obtain ⟨v, hv⟩ := leaf_ex (l := l) h
    obtain ⟨vs, hvs⟩ := exLs_ex (ls := r) hv
    exact ⟨_, hvs⟩
theorem sh_ex {s : Sh} {Q : Value → Prop} (h : s.ex Q) : ∃ v, Q v := by
  cases s with
  | one l => exact leaf_ex h
  | agg ls => obtain ⟨vs, h⟩ := exLs_ex (ls := ls) h; exact ⟨_, h⟩
theorem exShs_ex : ∀ {ls : List Sh} {Q : List Value → Prop}, exShs ls Q → ∃ vs, Q vs
  | [], _, h => ⟨[], h⟩
  | l :: r, _, h => by
    obtain ⟨v, hv⟩ := sh_ex (s := l) h
    obtain ⟨vs, hvs⟩ := exShs_ex (ls := r) hv
    exact ⟨_, hvs⟩
theorem exRes_ex {ls : List Sh} {Q : Value → Prop} (h : exRes ls Q) : ∃ v, Q v := by
  match ls, h with
  | [], h => exact ⟨_, h⟩
  | [s], h => exact sh_ex (s := s) h
  | s :: t :: r, h =>
    have h' : exShs (s :: t :: r) fun vs => Q (.tuple ⟨vs⟩) := h
    obtain ⟨vs, h⟩ := exShs_ex h'; exact ⟨_, h⟩
theorem exT_ex {t : TypeId} {Q : Value → Prop} (h : exT P t Q) : ∃ v, Q v := by
  unfold exT at h
  split at h
  · exact sh_ex h
  · exact h.elim

theorem bAt_get (s : ByteArray) (n : Int) (h : 0 ≤ n ∧ n < (s.size : Int)) : ∃ b, (if 0 ≤ n then s[n.toNat]? else none) = some b ∧ (b.toNat : Int) = bAt s n.toNat := by
  have hn : n.toNat < s.size := by omega
  refine ⟨s[n.toNat], ?_, ?_⟩
  · rw [if_pos h.1]; exact getElem?_pos s n.toNat hn
  · unfold bAt
    have hd : n.toNat < s.data.size := hn
    rw [Array.getElem?_eq_getElem hd]
    rfl

theorem indexP_sound (t : TypeId) (x i : Value) (hg : ∀ p, gt c p → G → p) (h : indexP P t x i c K) :
    ∃ v, K v ∧ (G → ∀ w, (Instr.index t x i).run P w = .ok v w) := by
  unfold indexP at h
  split at h
  · rename_i s k n ht
    refine ⟨_, h.2, fun g w => ?_⟩
    obtain ⟨b, h1, h2⟩ := bAt_get s n (hg _ h.1 g)
    simp only [Instr.index, asIntOf, Sem.run_bind, Sem.run_pure, Result.andThen_ok, run_underlying' ht, h1, h2]
  · split at h
    · obtain ⟨v, h1, h2⟩ := sh_ex h
      exact ⟨v, h2, fun g w => hg _ h1 g w⟩
    · exact h.elim
  · exact h.elim

theorem addr_add (b o n : Nat) : (⟨b, o, none⟩ : Addr).add n = ⟨b, o + n, none⟩ := by
  unfold Addr.add
  split
  · rename_i h; simp [h]
  · rfl

theorem indexAddrP_sound (t : TypeId) (x i : Value) (hg : ∀ p, gt c p → G → p) (h : indexAddrP P t x i c K) :
    ∃ v, K v ∧ (G → ∀ w, (Instr.indexAt t x i).run P w = .ok v w) := by
  unfold indexAddrP at h
  split at h
  · rename_i e a len _ k n ht
    obtain ⟨hinf, hz, h1, b, o, h2, h3⟩ := sized_info h
    refine ⟨_, h3, fun g w => ?_⟩
    have hb := hg _ h1 g
    have ha := hg _ h2 g
    subst ha
    simp [Instr.indexAt, asIntOf, run_underlying' ht, hb, run_sizeOf' P e hinf, addr_add, idxOff_eq]
  · rename_i len e b o k n ht
    obtain ⟨hinf, hz, h⟩ := sized_info h
    refine ⟨_, h.2, fun g w => ?_⟩
    have hb := hg _ h.1 g
    simp [Instr.indexAt, Instr.sureAddr, asIntOf, run_underlying' ht, hb, run_sizeOf' P e hinf, addr_add, idxOff_eq]
  · exact h.elim

theorem fieldAddrP_sound (t : TypeId) (x : Value) (f : Nat) (h : fieldAddrP P t x f K) :
    ∃ v, K v ∧ ∀ w, (Instr.fieldAt t x f).run P w = .ok v w := by
  unfold fieldAddrP at h
  split at h
  · rename_i fs b o ht
    split at h
    · rename_i fd hf
      obtain ⟨hinf, hz, h⟩ := sized_info h
      refine ⟨_, h, fun w => ?_⟩
      rw [lget_eq] at hf
      have hf' : fs[f]? = some fd := by simpa using hf
      simp [Instr.fieldAt, run_underlying' ht, hf', Instr.sureAddr, fieldPlace, run_sizeOf' P _ hinf, hz, addr_add]
    · exact h.elim
  · exact h.elim

theorem run_isAgg (t : TypeId) (w : World) (h : P.underlying t ≠ none) : (isAgg t).run P w = .ok (aggT P t) w := by
  cases hd : P.underlying t with
  | none => exact absurd hd h
  | some d => cases d <;> simp [isAgg, run_underlying' hd, aggT, hd]

theorem aggT_underlying {t : TypeId} (h : aggT P t = true) : P.underlying t ≠ none := by
  intro h0; simp [aggT, h0] at h

end
end Go.Nm
