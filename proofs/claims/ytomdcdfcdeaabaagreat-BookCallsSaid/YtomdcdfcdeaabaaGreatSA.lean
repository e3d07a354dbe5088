/-
  Slices of the program's own, and append.
-/
import Derived.Test.YtomdcdfcdeaabaaGreatSM
import Derived.Laws.AppendOwn
set_option linter.unusedVariables false
set_option linter.unusedSimpArgs false
namespace Go.Nm
open Go

/-- A slice type: elements of type e, of so many cells and bytes each. -/
structure SlT (P : Program) (t e sz bytes : Nat) : Prop where
  und : P.underlying t = some (.slice e)
  pos : 0 < sz
  info : ∃ i z, P.info? e = some i ∧ i.zero = some z ∧ i.size = sz ∧ i.bytes = bytes ∧ z.cells.size = sz
def slTB (P : Program) (t e sz bytes : Nat) : Bool :=
  match P.underlying t, P.info? e with
  | some (.slice e'), some i => (match i.zero with
    | some z => Nat.beq e' e && Nat.blt 0 sz && Nat.beq i.size sz && Nat.beq i.bytes bytes && Nat.beq z.cells.size sz
    | none => false)
  | _, _ => false
theorem slT_of {P : Program} {t e sz bytes : Nat} (h : slTB P t e sz bytes = true) : SlT P t e sz bytes := by
  unfold slTB at h
  split at h
  · rename_i e' i hu hi
    split at h
    · rename_i z hz
      simp only [Bool.and_eq_true] at h
      obtain ⟨⟨⟨⟨h1, h2⟩, h3⟩, h4⟩, h5⟩ := h
      have h1 := Nat.eq_of_beq_eq_true h1
      subst h1
      exact ⟨hu, Nat.le_of_ble_eq_true h2, i, z, hi, hz, Nat.eq_of_beq_eq_true h3, Nat.eq_of_beq_eq_true h4, Nat.eq_of_beq_eq_true h5⟩
    · cases h
  · cases h

/-- Cells that can be read behind an address. -/
def rdS (H : Heap) (a : Option Addr) (cs : List Value) : Prop := ∀ j v, lget cs j = some v → a = some ⟨adrB a, adrO a, none⟩ ∧ cellAt H (adrB a) (adrO a + j) = some v

theorem lget_lt {α : Type} {l : List α} {j : Nat} {v : α} (h : lget l j = some v) : j < l.length := by
  rw [lget_eq'] at h
  exact (List.getElem?_eq_some_iff.1 h).1
theorem lget_some {α : Type} {l : List α} {j : Nat} (h : j < l.length) : lget l j = some l[j] := by rw [lget_eq', List.getElem?_eq_getElem h]
theorem rdS_nil (H : Heap) (a : Option Addr) : rdS H a [] := fun j v h => by simp [lget] at h
theorem rdS.grow {H H' : Heap} {a : Option Addr} {cs : List Value} (h : rdS H a cs) (g : Grow H H') : rdS H' a cs := fun j v hj => ⟨(h j v hj).1, cellAt_grow g (h j v hj).2⟩
theorem rdS.cons {H : Heap} {a : Option Addr} {v : Value} {r : List Value} (h : rdS H a (v :: r)) : ∃ b o, a = some ⟨b, o, none⟩ ∧ cellAt H b o = some v ∧ rdS H (some ⟨b, o + 1, none⟩) r := by
  have h0 := h 0 v rfl
  refine ⟨_, _, h0.1, by simpa using h0.2, fun j u hj => ⟨rfl, ?_⟩⟩
  have := (h (j + 1) u hj).2
  show cellAt H (adrB a) (adrO a + 1 + j) = some u
  rw [show adrO a + 1 + j = adrO a + (j + 1) by omega]
  exact this
theorem rdS.take {H : Heap} {a : Option Addr} {cs : List Value} (h : rdS H a cs) (n : Nat) : rdS H a (cs.take n) := fun j v hj => h j v (by
  rw [lget_eq'] at hj ⊢
  rw [List.getElem?_take] at hj
  split at hj
  · exact hj
  · cases hj)

/-! ### cells of a block, some of which may be frozen -/
theorem Sat.cellG {H : Heap} {F : Assn} {b e : Nat} {cs : List Value} {fr : Nat × Nat} (h : Sat H (pt b (.cells cs.toArray e fr) * F)) (o : Nat) : cellAt H b o = cs[o]? := by
  have := h.get
  simp [cellAt, this]
theorem setAt_getG {H : Heap} {b o e : Nat} {v : Value} {cs : List Value} {fr : Nat × Nat} (h : H[b]? = some (.cells cs.toArray e fr)) :
    (setAt H b o v)[b]? = some (.cells (cs.set o v).toArray e fr) ∧ ∀ i, i ≠ b → (setAt H b o v)[i]? = H[i]? := by
  refine ⟨?_, fun i hi => ?_⟩
  · simp only [setAt, Array.getElem?_modify, if_true, h, Option.map_some]
    simp
  · simp only [setAt, Array.getElem?_modify]
    rw [if_neg (fun e => hi e.symm)]
theorem Sat.setsG {H : Heap} {F : Assn} {b e : Nat} {fr : Nat × Nat} : ∀ (vs : List Value) {cs : List Value} (o : Nat), Sat H (pt b (.cells cs.toArray e fr) * F) → Sat (setAll H b o vs) (pt b (.cells (setsL cs o vs).toArray e fr) * F)
  | [], cs, o, h => h
  | v :: r, cs, o, h => by
    have := h.upd (setAt_getG (o := o) (v := v) h.get).1 (setAt_getG h.get).2
    simp only [setAll, setsL]
    exact Sat.setsG r (o + 1) this
theorem Sat.canG {H : Heap} {F : Assn} {b e : Nat} {cs : List Value} {fr : Nat × Nat} (h : Sat H (pt b (.cells cs.toArray e fr) * F)) : ∀ (vs : List Value) (o : Nat), o + vs.length ≤ cs.length → (∀ i, o ≤ i → i < o + vs.length → ¬ (fr.1 ≤ i ∧ i < fr.2)) → canSet H b o vs
  | [], _, _, _ => trivial
  | v :: r, o, hl, hf => by
    simp only [List.length_cons] at hl hf
    refine ⟨⟨?_, ?_⟩, Sat.canG h r (o + 1) (by omega) fun i h1 h2 => hf i (by omega) (by omega)⟩
    · rw [h.cellG]; simp; omega
    · have := h.get
      have hn := hf o (Nat.le_refl _) (by omega)
      simp only [frozenAt, this]
      simp only [Bool.and_eq_false_iff, decide_eq_false_iff_not]
      omega

/-- A slice that is owned, with the room behind it: cs are the cells of its n elements. -/
def slA (e sz : Nat) (a : Option Addr) (n c : Nat) (cs : List Value) : Assn := fun h =>
  cs.length = n * sz ∧ ((a = none ∧ n = 0 ∧ c = 0 ∧ h = phEmpty) ∨
    ∃ b pre post e' fr, a = some ⟨b, pre.length, none⟩ ∧ n ≤ c ∧ (c - n) * sz ≤ post.length ∧ (e = e → ∀ i, pre.length ≤ i → i < pre.length + c * sz → ¬ (fr.1 ≤ i ∧ i < fr.2)) ∧ pt b (.cells (pre ++ cs ++ post).toArray e' fr) h)

section
variable {H : Heap} {F : Assn} {e sz n c : Nat} {a : Option Addr} {cs : List Value}

theorem slA_nil (h : Sat H F) : Sat H (slA e sz none 0 0 [] * F) := by
  have : Sat H (emp * F) := by rw [emp_sep]; exact h
  exact this.frame fun p hp => ⟨by simp, .inl ⟨rfl, rfl, rfl, hp⟩⟩
theorem slA_pt {b : Nat} (h : Sat H (cellsA b cs e * F)) (hl : cs.length = n * sz) : Sat H (slA e sz (some ⟨b, 0, none⟩) n n cs * F) :=
  h.frame fun p hp => ⟨hl, .inr ⟨b, [], [], e, (0, 0), rfl, Nat.le_refl _, by simp, fun _ i _ _ hh => by simp at hh, by simpa [cellsA] using hp⟩⟩
theorem slA_open (h : Sat H (slA e sz a n c cs * F)) : cs.length = n * sz ∧ ((a = none ∧ n = 0 ∧ c = 0 ∧ Sat H F) ∨
    ∃ b pre post e' fr, a = some ⟨b, pre.length, none⟩ ∧ n ≤ c ∧ (c - n) * sz ≤ post.length ∧ (∀ i, pre.length ≤ i → i < pre.length + c * sz → ¬ (fr.1 ≤ i ∧ i < fr.2)) ∧ Sat H (pt b (.cells (pre ++ cs ++ post).toArray e' fr) * F)) := by
  obtain ⟨g, h1, x, y, hd, rfl, hx, hy⟩ := h
  refine ⟨hx.1, ?_⟩
  rcases hx.2 with ⟨h2, h3, h4, h5⟩ | ⟨b, pre, post, e', fr, h2, h3, h4, hf, h5⟩
  · left
    refine ⟨h2, h3, h4, _, h1, ?_⟩
    rw [h5, phUnion_empty]; exact hy
  · right
    exact ⟨b, pre, post, e', fr, h2, h3, h4, hf rfl, _, h1, x, y, hd, rfl, h5, hy⟩
theorem slA_len (h : Sat H (slA e sz a n c cs * F)) : cs.length = n * sz := (slA_open h).1
theorem slA_nc (h : Sat H (slA e sz a n c cs * F)) : n ≤ c := by
  rcases (slA_open h).2 with ⟨h2, h3, h4, h5⟩ | ⟨b, pre, post, e', fr, h2, h3, h4, hf, h5⟩ <;> omega
theorem slA_rd (h : Sat H (slA e sz a n c cs * F)) : rdS H a cs := by
  obtain ⟨hl, h2⟩ := slA_open h
  intro j v hj
  have hlt := lget_lt hj
  rcases h2 with ⟨h2, h3, h4, h5⟩ | ⟨b, pre, post, e', fr, h2, h3, h4, hf, h5⟩
  · subst h3; simp [hl] at hlt
  · subst h2
    refine ⟨rfl, ?_⟩
    show cellAt H b (pre.length + j) = some v
    rw [h5.cellG]
    rw [List.append_assoc, List.getElem?_append_right (by omega), Nat.add_sub_cancel_left, List.getElem?_append_left hlt, ← lget_eq']
    exact hj

theorem setsL_length : ∀ (vs cs : List Value) (o : Nat), (setsL cs o vs).length = cs.length
  | [], _, _ => rfl
  | v :: r, cs, o => by simp only [setsL]; rw [setsL_length r]; simp
theorem setsL_mid : ∀ (vs pre cs post : List Value) (o : Nat), o + vs.length ≤ cs.length → setsL (pre ++ cs ++ post) (pre.length + o) vs = pre ++ setsL cs o vs ++ post
  | [], _, _, _, _, _ => rfl
  | v :: r, pre, cs, post, o, h => by
    simp only [List.length_cons] at h
    simp only [setsL]
    have := setsL_mid r pre (cs.set o v) post (o + 1) (by simp; omega)
    rw [← Nat.add_assoc] at this
    rw [← this]
    congr 1
    rw [List.append_assoc, List.append_assoc, List.set_append_right _ _ (by omega), Nat.add_sub_cancel_left, List.set_append_left _ _ (by omega)]
theorem setsL_room : ∀ (vs pre post : List Value), vs.length ≤ post.length → setsL (pre ++ post) pre.length vs = pre ++ vs ++ post.drop vs.length
  | [], _, _, _ => by simp [setsL]
  | v :: r, pre, [], h => by simp at h
  | v :: r, pre, p :: post, h => by
    simp only [setsL]
    have := setsL_room r (pre ++ [v]) post (by simpa using h)
    simp only [List.length_append, List.length_cons, List.length_nil, Nat.zero_add, List.append_assoc, List.cons_append, List.nil_append] at this
    simp only [List.length_cons, List.drop_succ_cons, List.append_assoc, List.cons_append]
    rw [← this]
    congr 1
    rw [List.set_append_right _ _ (by omega)]
    simp

/-- Cells of a slice are set. -/
theorem slA_set (h : Sat H (slA e sz a n c cs * F)) (o : Nat) (vs : List Value) (hl : o + vs.length ≤ cs.length) (h0 : vs ≠ []) :
    a = some ⟨adrB a, adrO a, none⟩ ∧ canSet H (adrB a) (adrO a + o) vs ∧ Sat (setAll H (adrB a) (adrO a + o) vs) (slA e sz a n c (setsL cs o vs) * F) := by
  obtain ⟨hlen, h2⟩ := slA_open h
  rcases h2 with ⟨h2, h3, h4, h5⟩ | ⟨b, pre, post, e', fr, h2, h3, h4, hf, h5⟩
  · subst h3
    cases vs with
    | nil => exact absurd rfl h0
    | cons v r => simp at hl; omega
  · subst h2
    have hcn : n * sz ≤ c * sz := Nat.mul_le_mul_right _ h3
    refine ⟨rfl, h5.canG vs _ (by simp [adrO]; omega) (fun i h6 h7 => hf i (by simp only [adrO] at h6; omega) (by simp only [adrO] at h7; omega)), ?_⟩
    have := Sat.setsG vs (pre.length + o) h5
    rw [setsL_mid _ _ _ _ _ hl] at this
    exact this.frame fun p hp => ⟨by rw [setsL_length]; exact hlen, .inr ⟨b, pre, post, e', fr, rfl, h3, h4, fun _ => hf, hp⟩⟩

theorem Addr_add (b o n : Nat) : (⟨b, o, none⟩ : Addr).add n = ⟨b, o + n, none⟩ := by
  unfold Addr.add; split <;> simp_all

theorem run_firstCells {P : Program} {w : World} {m : Nat} {a2 : Option Addr} {c2 : Nat} {ws : List Value} (hw : rdS w.heap a2 ws) (hl : ws.length = m * sz) :
    (Builtin.firstCells sz m (.slice a2 m c2)).run P w = .ok ws.toArray w := by
  cases a2 with
  | none =>
    have : ws = [] := by
      cases ws with
      | nil => rfl
      | cons v r => have := (hw 0 v rfl).1; simp at this
    subst this
    exact run_firstCells_none w sz m m c2
  | some a =>
    refine run_firstCells_some w sz m a m c2 ws hl fun j v hj => ?_
    have h := hw j v (by rw [lget_eq']; exact hj)
    simp only [Option.some.injEq] at h
    rw [h.1, Addr_add]
    have h2 := h.2
    unfold World.cell?
    unfold cellAt at h2
    simp only [Option.isSome_none, adrB, adrO] at h2 ⊢
    split at h2
    · rename_i cc x1 x2 hb; rw [hb]; exact h2
    · cases h2

/-- **append.** -/
theorem run_append {P : Program} {t bytes m c2 ty : Nat} (T : SlT P t e sz bytes) {a2 : Option Addr} {ws : List Value} {K : Value → Heap → Prop} (h : Sat H (slA e sz a n c cs * F)) (hw : rdS H a2 ws) (hl : ws.length = m * sz) (hp : plainCells ws = true)
    (hb : (n + m) * bytes ≤ 140737488355328) (hn : n + m ≤ 140737488355328)
    (k : ∀ a' c' H', Sat H' (slA e sz a' (n + m) c' (cs ++ ws) * F) → K (.slice a' (n + m) c') H') :
    RunW P (Builtin.append_ #[t, t] ty #[.slice a n c, .slice a2 m c2]) H K := by
  obtain ⟨ht, hsz, i, z, hi, hz, rfl, rfl, hzs⟩ := T
  intro w hw0
  subst hw0
  obtain ⟨hlen, h2⟩ := slA_open h
  have h63 : ¬ (9223372036854775807 < (n : Int) + (m : Int)) := by omega
  have hfw := run_firstCells (P := P) (w := w) (c2 := c2) hw hl
  have hfd := run_firstCells (P := P) (w := w.drew) (c2 := c2) hw hl
  have hfo := run_firstCells (P := P) (w := w.drew) (a2 := a) (m := n) (c2 := c) (slA_rd h) hlen
  by_cases hroom : n + m ≤ c
  · rcases h2 with ⟨h2, h3, h4, h5⟩ | ⟨b, pre, post, e', fr, h2, h3, h4, hf, h5⟩
    · subst h2; subst h3; subst h4
      obtain rfl : m = 0 := by omega
      obtain rfl : ws = [] := List.eq_nil_of_length_eq_zero (by simpa using hl)
      obtain rfl : cs = [] := List.eq_nil_of_length_eq_zero (by simpa using hlen)
      refine ⟨.slice none (0 + 0) 0, w, ?_, Rest.refl w, k _ _ _ (slA_nil h5)⟩
      simp [Builtin.append_, run_underlying ht, sizeOf, typeInfo, hi, Builtin.lenOf, hfw]
    · subst h2
      have hfit : ws.length ≤ post.length := by
        refine Nat.le_trans ?_ h4
        rw [hl]
        exact Nat.mul_le_mul_right _ (by omega)
      have hnm : (n + m) * i.size ≤ c * i.size := Nat.mul_le_mul_right _ hroom
      rw [Nat.add_mul] at hnm
      have hcan : canSet w.heap b (pre.length + n * i.size) ws := h5.canG ws _ (by simp [hlen]; omega) fun j h6 h7 => hf j (by omega) (by omega)
      obtain ⟨w', h6, h7, h8⟩ := run_storeCells (P := P) (b := b) ws (pre.length + n * i.size) 0 w (by simpa using hcan) (by simpa using canSet_all _ _ hcan) hp
      refine ⟨.slice (some ⟨b, pre.length, none⟩) (n + m) c, w', ?_, h7, k _ _ _ ?_⟩
      · simp [Builtin.append_, run_underlying ht, sizeOf, typeInfo, hi, Builtin.lenOf, hroom, hfw, Addr_add, h6]
      · rw [h8]
        have h9 := Sat.setsG ws (pre.length + n * i.size) h5
        have e1 : pre.length + n * i.size = (pre ++ cs).length := by simp [hlen]
        rw [e1, setsL_room _ _ _ hfit] at h9
        rw [Nat.add_zero, e1]
        refine h9.frame fun p hp => ⟨by simp [hlen, hl, Nat.add_mul], .inr ⟨b, pre, post.drop ws.length, e', fr, rfl, hroom, ?_, fun _ => hf, by simpa using hp⟩⟩
        rw [List.length_drop, hl]
        have : (c - (n + m)) * i.size + m * i.size = (c - n) * i.size := by rw [← Nat.add_mul]; congr 1; omega
        omega
  · have h48 : ¬ (281474976710656 < Builtin.nextslicecap (n + m) c * i.bytes) := by
      have := growslice_fits (need := n + m) (old := c) (bytes := i.bytes) (by omega) hb
      omega
    refine ⟨.slice (some ⟨w.heap.size, 0, none⟩) (n + m) (grownCap w (n + m) c e), w.drew.alloc (.cells (cs.toArray ++ ws.toArray ++ Builtin.zeroCells z.cells (grownCap w (n + m) c e - (n + m))) e), ?_, ⟨rfl, rfl, rfl⟩, k _ _ _ ?_⟩
    · simp [Builtin.append_, run_underlying ht, sizeOf, typeInfo, zeroValue, hi, hz, Builtin.lenOf, hroom, h63, h48, Question.forced, hfo, hfd, newRow, grownCap]
      congr 2
      apply Array.ext'
      simp [List.append_assoc]
    · have h5 : Sat w.heap F := h.drop'
      have h6 := h5.push (.cells (cs.toArray ++ ws.toArray ++ Builtin.zeroCells z.cells (grownCap w (n + m) c e - (n + m))) e)
      have hge := grownCap_ge w (n + m) c e
      refine h6.frame fun p hp => ⟨by simp [hlen, hl, Nat.add_mul], .inr ⟨w.heap.size, [], (Builtin.zeroCells z.cells (grownCap w (n + m) c e - (n + m))).toList, e, (0, 0), rfl, hge, ?_, fun _ i _ _ hh => by simp at hh, ?_⟩⟩
      · rw [Array.length_toList, size_zeroCells, hzs]
        exact Nat.le_refl _
      · have e2 : (([] : List Value) ++ (cs ++ ws) ++ (Builtin.zeroCells z.cells (grownCap w (n + m) c e - (n + m))).toList).toArray = cs.toArray ++ ws.toArray ++ Builtin.zeroCells z.cells (grownCap w (n + m) c e - (n + m)) := by
          apply Array.ext'; simp
        rw [e2]
        exact hp
end

section
variable {H : Heap} {L : List Assn} {e sz n c : Nat} {a : Option Addr} {cs : List Value}
theorem SatL.sl_rd (h : SatL H L) (i : Nat) (hA : nth i L = slA e sz a n c cs) : rdS H a cs := slA_rd (F := star (del i L)) (by have := h.foc i; rw [hA] at this; exact this)
theorem SatL.sl_len (h : SatL H L) (i : Nat) (hA : nth i L = slA e sz a n c cs) : cs.length = n * sz := slA_len (F := star (del i L)) (by have := h.foc i; rw [hA] at this; exact this)
theorem SatL.sl_nc (h : SatL H L) (i : Nat) (hA : nth i L = slA e sz a n c cs) : n ≤ c := slA_nc (F := star (del i L)) (by have := h.foc i; rw [hA] at this; exact this)
theorem SatL.sl_nil (h : SatL H L) (e sz : Nat) : SatL H (slA e sz none 0 0 [] :: L) := slA_nil h
theorem SatL.sl_pt {b : Nat} (h : SatL H (pt b (.cells cs.toArray e (0, 0)) :: L)) (sz n : Nat) (hl : cs.length = n * sz) : SatL H (slA e sz (some ⟨b, 0, none⟩) n n cs :: L) := slA_pt h hl
theorem SatL.sl_set (h : SatL H L) (i : Nat) (hA : nth i L = slA e sz a n c cs) (o : Nat) (vs : List Value) (hl : o + vs.length ≤ cs.length) (h0 : vs ≠ []) :
    a = some ⟨adrB a, adrO a, none⟩ ∧ canSet H (adrB a) (adrO a + o) vs ∧ SatL (setAll H (adrB a) (adrO a + o) vs) (put i (slA e sz a n c (setsL cs o vs)) L) := by
  have := h.foc i
  rw [hA] at this
  obtain ⟨h1, h2, h3⟩ := slA_set this o vs hl h0
  exact ⟨h1, h2, SatL.back h3⟩

/-- append of some cells that lie anywhere. -/
theorem SatL.append {P : Program} {t bytes m c2 ty : Nat} (T : SlT P t e sz bytes) {a2 : Option Addr} {ws : List Value} {K : Value → Heap → Prop} (h : SatL H L) (i : Nat) (hA : nth i L = slA e sz a n c cs) (hw : rdS H a2 ws) (hl : ws.length = m * sz) (hp : plainCells ws = true)
    (hb : (n + m) * bytes ≤ 140737488355328) (hn : n + m ≤ 140737488355328)
    (k : ∀ a' c' H', SatL H' (put i (slA e sz a' (n + m) c' (cs ++ ws)) L) → K (.slice a' (n + m) c') H') :
    RunW P (Builtin.append_ #[t, t] ty #[.slice a n c, .slice a2 m c2]) H K := by
  have h2 := h.foc i
  rw [hA] at h2
  exact run_append T h2 hw hl hp hb hn fun a' c' H' h3 => k a' c' H' (SatL.back h3)
/-- append of one element. -/
theorem SatL.append1 {P : Program} {t bytes ty e2 : Nat} (T : SlT P t e sz bytes) {ws : List Value} {K : Value → Heap → Prop} (h : SatL H L) (i : Nat) (hA : nth i L = slA e sz a n c cs) (hl : ws.length = sz) (hp : plainCells ws = true)
    (hb : (n + 1) * bytes ≤ 140737488355328) (hn : n + 1 ≤ 140737488355328)
    (k : ∀ a' c' H', SatL H' (put i (slA e sz a' (n + 1) c' (cs ++ ws)) L) → K (.slice a' (n + 1) c') H') :
    RunW P (Builtin.append_ #[t, t] ty #[.slice a n c, .slice (some ⟨H.size, 0, none⟩) 1 1]) (H.push (.cells ws.toArray e2 (0, 0))) K := by
  have g := Grow.push H (.cells ws.toArray e2 (0, 0))
  refine SatL.append T (h.grow g) i hA (ws := ws) (fun j v hj => ⟨rfl, ?_⟩) (by simpa using hl) hp hb hn k
  simp only [adrB, adrO, Nat.zero_add]
  rw [lget_eq'] at hj
  simp [cellAt, hj]
end
end Go.Nm
