/-
  The engine, part 4: operations that read the heap, and those that write it.
-/
import Derived.Test.YtomdcdfcdeaabaaGreatE3
namespace Go.Nm
open Go

/-- What an operation's run has come to, if it is good: the world's heap and the rest. -/
def Good (P : Program) (w : World) (K : Value → Heap → Prop) : Result Next → Prop
  | .ok (.value v) w' => Rest w w' ∧ K v w'.heap
  | .ok .skip w' => Rest w w' ∧ K undef w'.heap
  | .ok (.enter f args) w' => w' = w ∧ Calls P f args w (Fin w K)
  | .ok (.round l f tmps assign body) w' => w' = w ∧ RoundIn Fence.wide 0 P l f tmps assign body w (Fin w K)
  | _ => False

theorem Good.mono {P : Program} {w : World} {K K' : Value → Heap → Prop} {r : Result Next} (h : Good P w K r) (hk : ∀ v H, K v H → K' v H) : Good P w K' r := by
  cases r with
  | halt h' w' => exact h
  | ok n w' =>
    cases n <;> simp only [Good] at h ⊢
    case value v => exact ⟨h.1, hk _ _ h.2⟩
    case skip => exact ⟨h.1, hk _ _ h.2⟩
    case enter f args =>
      refine ⟨h.1, h.2.mono fun e w'' he => ?_⟩
      cases e <;> simp only [Fin] at he ⊢
      exact ⟨he.1, hk _ _ he.2⟩
    case round l f tmps assign body =>
      refine ⟨h.1, h.2.mono fun e w'' he => ?_⟩
      cases e <;> simp only [Fin] at he ⊢
      exact ⟨he.1, hk _ _ he.2⟩

section
variable {X : Ctx} {ρ : Operand → Value} {ev : Operand → Option Value} {c : Option Prop} {G : Prop}

theorem run_callFunc {P : Program} {f : FuncId} (hb : Bodied P f) (args : Array Value) (w : World) : (callFunc f args).run P w = .ok (.enter f args) w := by
  obtain ⟨fn, h1, h2, h3⟩ := hb
  simp only [callFunc, Sem.run_bind, run_program, Result.andThen_ok, h1, h3, h2, Bool.false_eq_true, if_false, Sem.run_pure]

theorem run_load_cell {P : Program} {w : World} {b o : Nat} {v : Value} (h : cellAt w.heap b o = some v) : (load ⟨b, o, none⟩).run P w = .ok v w := by
  simp [run_load, cell?_cellAt, h]

theorem cellsAre_cons {H : Heap} {b o : Nat} {v : Value} {r : List Value} (h : cellsAre H b o (v :: r)) : cellAt H b o = some v ∧ cellsAre H b (o + 1) r := by
  cases r with
  | nil => exact ⟨h, trivial⟩
  | cons u r => exact h

theorem run_loadCellsFrom {P : Program} {w : World} {b : Nat} : ∀ (l : List Value) (o i : Nat) (acc : Array Value), cellsAre w.heap b (o + i) l →
    (loadCellsFrom ⟨b, o, none⟩ i l.length acc).run P w = .ok (acc ++ l.toArray) w
  | [], o, i, acc, _ => by simp [loadCellsFrom]
  | v :: r, o, i, acc, h => by
    obtain ⟨h1, h2⟩ := cellsAre_cons h
    have ih := run_loadCellsFrom (P := P) r o (i + 1) (acc.push v) (by rw [← Nat.add_assoc]; exact h2)
    simp only [List.length_cons, loadCellsFrom, Sem.run_bind, addr_add, run_load_cell h1, Result.andThen_ok, ih]
    simp

theorem exT_underlying {P : Program} {t : TypeId} {Q : Value → Prop} (h : exT P t Q) : P.underlying t ≠ none := by
  intro h0
  unfold exT shapeOf at h
  simp [leavesOf, h0] at h

theorem run_loadAt_agg {P : Program} {w : World} {t : TypeId} {b off : Nat} {us : List Value} (hag : aggT P t = true) (hl : us.length = P.cellsOf t) (h : cellsAre w.heap b off us) :
    (Instr.loadAt t (.pointer (some ⟨b, off, none⟩))).run P w = .ok (.agg ⟨us⟩) w := by
  have hu := aggT_underlying hag
  have hinf : P.info? t ≠ none := by
    cases hd : P.underlying t with
    | none => exact absurd hd hu
    | some d => exact info_of_underlying hd
  have hr := run_loadCellsFrom (P := P) (w := w) (b := b) us off 0 #[] (by simpa using h)
  simp only [Instr.loadAt, Instr.sureAddr, Sem.run_bind, Sem.run_pure, Result.andThen_ok, loadVar, run_isAgg _ w hu, hag, if_true, run_sizeOf' P t hinf, loadCells, ← hl, hr]
  simp

theorem run_loadAt_one {P : Program} {w : World} {t : TypeId} {b off : Nat} {u : Value} (hu : P.underlying t ≠ none) (hag : aggT P t = false) (h : cellAt w.heap b off = some u) :
    (Instr.loadAt t (.pointer (some ⟨b, off, none⟩))).run P w = .ok u w := by
  simp only [Instr.loadAt, Instr.sureAddr, Sem.run_bind, Sem.run_pure, Result.andThen_ok, loadVar, run_isAgg _ w hu, hag, Bool.false_eq_true, if_false, run_load_cell h]

theorem good_value {P : Program} {w : World} {v : Value} {r : Result Next} (h : r = .ok (.value v) w) : Good P w (fun v' H' => v' = v ∧ H' = w.heap) r := by
  subst h; exact ⟨Rest.refl w, rfl, rfl⟩

theorem memN_false {n : Nat} {l : List Nat} {q : Prop} (h : if memN n l = false then False else q) : memN n l = true ∧ q := by
  split at h
  · exact h.elim
  · rename_i hn; exact ⟨by simpa using hn, h⟩

theorem read_sound (o : Oper) {H : Heap} {K : Value → (Heap → Prop) → Prop} (hg : ∀ p, gt c p → G → p) (hev : ∀ x v, ev x = some v → G → ρ x = v) (hX : ∀ f, memN f X.calls = true → Bodied X.P f) (hρ : ∀ f, ρ (.func f) = .func (.func f) #[] #[])
    (h : readOp X ev c o H K) : ∃ v fact, K v fact ∧ (∀ q, c = some q → ¬ q → ∀ H', fact H') ∧ (G → fact H) ∧ (G → ∀ w, fact w.heap → Good X.P w (fun v' H' => v' = v ∧ H' = w.heap) ((execOp ρ o).run X.P w)) := by
  unfold readOp at h
  split at h
  · rename_i t x hop
    obtain ⟨a, ha, h⟩ := withV_some h
    split at h
    · rename_i b off
      split at h
      · rename_i hag
        unfold exAggT at h
        split at h
        · rename_i ls _
          obtain ⟨us, h⟩ := exLs_ex (ls := ls) h
          split at h
          · rename_i hlen
            refine ⟨_, _, h.2, fun q hq hn H' => by subst hq; exact fun hq' => absurd hq' hn, fun g => h.1, fun g w hw => good_value ?_⟩
            simp [execOp, hop, hev x _ ha g, run_loadAt_agg hag hlen (hg _ hw g)]
          · exact h.elim
        · exact h.elim
      · rename_i hag
        have hu := exT_underlying h
        obtain ⟨u, h1, h2⟩ := exT_ex h
        refine ⟨_, _, h2, fun q hq hn H' => by subst hq; exact fun hq' => absurd hq' hn, fun g => h1, fun g w hw => good_value ?_⟩
        simp [execOp, hop, hev x _ ha g, run_loadAt_one hu hag (hg _ hw g)]
    · exact h.elim
  · rename_i t x i ok hop
    obtain ⟨m, hm, h⟩ := withV_some h
    obtain ⟨k, hk, h⟩ := withV_some h
    split at h
    · rename_i kt e ht
      obtain ⟨u, h⟩ := exT_ex h
      split at h
      · obtain ⟨there, h1, h2⟩ := h
        refine ⟨_, _, h2, fun q hq hn H' => by subst hq; exact fun hq' => absurd hq' hn, fun g => h1, fun g w hw => good_value ?_⟩
        simp [execOp, hop, hev x _ hm g, hev i _ hk g, hg _ hw g w rfl]
      · refine ⟨_, _, h.2, fun q hq hn H' => by subst hq; exact fun hq' => absurd hq' hn, fun g => h.1, fun g w hw => good_value ?_⟩
        simp [execOp, hop, hev x _ hm g, hev i _ hk g, hg _ hw g w rfl]
    · exact h.elim
  · rename_i s d x hop
    obtain ⟨v, hv, h⟩ := withV_some h
    split at h
    · obtain ⟨b, h1, h2⟩ := h
      refine ⟨_, _, h2, fun q hq hn H' => by subst hq; exact fun hq' => absurd hq' hn, fun g => h1, fun g w hw => good_value ?_⟩
      simp [execOp, hop, hev x _ hv g, hg _ hw g w rfl]
    · exact h.elim
  · rename_i it hop
    obtain ⟨v, hv, h⟩ := withV_some h
    split at h
    · obtain ⟨k, h⟩ := sh_ex h
      obtain ⟨x, h1, h2⟩ := sh_ex h
      refine ⟨_, _, h2, fun q hq hn H' => by subst hq; exact fun hq' => absurd hq' hn, fun g => h1, fun g w hw => good_value ?_⟩
      simp [execOp, hop, hev it _ hv g, hg _ hw g w rfl]
    · exact h.elim
  · rename_i cl hop
    split at h
    · rename_i f hcl
      obtain ⟨hf, h⟩ := memN_false h
      obtain ⟨vs, hvs, h⟩ := withV_some h
      obtain ⟨ss, hss, h⟩ := withV_some h
      obtain ⟨u, h1, h2⟩ := exRes_ex h
      refine ⟨_, _, h2, fun q hq hn H' => by subst hq; exact fun hq' => absurd hq' hn, fun g => h1, fun g w hw => ?_⟩
      have e1 : cl.args.map ρ = ⟨vs⟩ := by apply Array.ext'; simp [evList_map hev _ _ hvs g]
      have e2 : (execOp ρ o).run X.P w = .ok (.enter f ⟨vs⟩) w := by
        simp only [execOp, hop, resolve, hcl, hρ, Deferred.ofValue, invoke, e1, Sem.run_bind, Sem.run_pure, Result.andThen_ok]
        rw [run_callFunc (hX f hf)]
        simp
      rw [e2]
      exact ⟨rfl, hg _ hw g w rfl⟩
    · rename_i hcl
      obtain ⟨vs, hvs, h⟩ := withV_some h
      obtain ⟨n, h1, h2⟩ := h
      refine ⟨_, _, h2, fun q hq hn H' => by subst hq; exact fun hq' => absurd hq' hn, fun g => h1, fun g w hw => good_value ?_⟩
      have e1 : cl.args.map ρ = ⟨vs⟩ := by apply Array.ext'; simp [evList_map hev _ _ hvs g]
      simp [execOp, hop, resolve, hcl, e1, invoke, builtin, hg _ hw g w rfl]
    · exact h.elim
  · exact h.elim

theorem run_store_cell {P : Program} {w : World} {b o : Nat} {v : Value} (hs : (cellAt w.heap b o).isSome = true) (hf : frozenAt w.heap b o = false) (hv : plainCells [v] = true) :
    (store ⟨b, o, none⟩ v).run P w = .ok () (w.setCell ⟨b, o, none⟩ v) := by
  have hv' : v.oneCell' = true := by cases v <;> simp [plainCells, Value.oneCell'] at hv ⊢
  rw [run_store P w _ v _ hv', cell?_cellAt]
  cases hc : cellAt w.heap b o with
  | none => simp [hc] at hs
  | some u => simp [frozen?_frozenAt, hf]

theorem plainCells_cons {v : Value} {r : List Value} (h : plainCells (v :: r) = true) : plainCells [v] = true ∧ plainCells r = true := by
  cases v <;> simp [plainCells] at h ⊢ <;> exact h

theorem run_storeCells {P : Program} {b : Nat} : ∀ (l : List Value) (o i : Nat) (w : World), canSet w.heap b (o + i) l → (∀ j, j < l.length → (cellAt w.heap b (o + i + j)).isSome = true ∧ frozenAt w.heap b (o + i + j) = false) → plainCells l = true →
    ∃ w', (storeCells ⟨b, o, none⟩ l i).run P w = .ok () w' ∧ Rest w w' ∧ w'.heap = setAll w.heap b (o + i) l
  | [], o, i, w, _, _, _ => ⟨w, rfl, Rest.refl w, rfl⟩
  | v :: r, o, i, w, h, ha, hp => by
    obtain ⟨hp1, hp2⟩ := plainCells_cons hp
    have h0 := ha 0 (by simp)
    have hst := run_store_cell (P := P) (w := w) (b := b) (o := o + i) (v := v) (by simpa using h0.1) (by simpa using h0.2) hp1
    have hsame : ∀ x, (cellAt (setAt w.heap b (o + i) v) b x).isSome = (cellAt w.heap b x).isSome ∧ frozenAt (setAt w.heap b (o + i) v) b x = frozenAt w.heap b x := by
      intro x
      simp only [cellAt, frozenAt, setAt, Array.getElem?_modify]
      cases hb : w.heap[b]? with
      | none => simp
      | some ob =>
        cases ob <;> simp [Array.getElem?_setIfInBounds]
        rename_i c e fz
        split <;> (try split) <;> simp_all
    obtain ⟨w', h1, h2, h3⟩ := run_storeCells (P := P) (b := b) r o (i + 1) (w.setCell ⟨b, o + i, none⟩ v) (by
        rw [setCell_heap]
        clear hst
        have : ∀ (l : List Value) (x : Nat), (∀ j, j < l.length → (cellAt (setAt w.heap b (o + i) v) b (x + j)).isSome = true ∧ frozenAt (setAt w.heap b (o + i) v) b (x + j) = false) → canSet (setAt w.heap b (o + i) v) b x l := by
          intro l
          induction l with
          | nil => intro x _; trivial
          | cons u l ih => intro x hx; exact ⟨by simpa using hx 0 (by simp), ih (x + 1) (fun j hj => by have := hx (j + 1) (by simp; omega); rwa [show x + (j + 1) = x + 1 + j by omega] at this)⟩
        refine this r _ fun j hj => ?_
        have := ha (j + 1) (by simp; omega)
        rw [(hsame _).1, (hsame _).2]
        rwa [show o + i + (j + 1) = o + (i + 1) + j by omega] at this) (fun j hj => by
        rw [setCell_heap, (hsame _).1, (hsame _).2]
        have := ha (j + 1) (by simp; omega)
        rwa [show o + i + (j + 1) = o + (i + 1) + j by omega] at this) hp2
    refine ⟨w', ?_, ?_, ?_⟩
    · simp only [storeCells, Sem.run_bind, addr_add, hst, Result.andThen_ok, h1]
    · exact Rest.trans (b := w.setCell ⟨b, o + i, none⟩ v) ⟨rfl, rfl, rfl⟩ h2
    · rw [h3, setCell_heap]; rfl

theorem canSet_all {H : Heap} {b : Nat} : ∀ (l : List Value) (x : Nat), canSet H b x l → ∀ j, j < l.length → (cellAt H b (x + j)).isSome = true ∧ frozenAt H b (x + j) = false
  | [], _, _, j, hj => by simp at hj
  | _ :: r, x, h, 0, _ => h.1
  | _ :: r, x, h, j + 1, hj => by
    have := canSet_all r (x + 1) h.2 j (by simpa using hj)
    rwa [show x + 1 + j = x + (j + 1) by omega] at this

theorem run_storeAt {P : Program} {t : TypeId} {b off : Nat} {v : Value} {w : World} (hl : v.cells.toList.length = P.cellsOf t) (hi : P.info? t ≠ none) (hp : plainCells v.cells.toList = true) (h : canSet w.heap b off v.cells.toList) :
    ∃ w', (Instr.storeAt t (.pointer (some ⟨b, off, none⟩)) v).run P w = .ok () w' ∧ Rest w w' ∧ w'.heap = setAll w.heap b off v.cells.toList := by
  obtain ⟨w', h1, h2, h3⟩ := run_storeCells (P := P) (b := b) v.cells.toList off 0 w (by simpa using h) (by simpa using canSet_all _ _ h) hp
  refine ⟨w', ?_, h2, by simpa using h3⟩
  simp only [Instr.storeAt, Instr.sureAddr, Sem.run_bind, Sem.run_pure, Result.andThen_ok, storeVar, run_sizeOf' P t hi]
  rw [if_neg (by simpa using hl)]
  simp only [h1]

theorem good_run {P : Program} {s : Sem Value} {H : Heap} {K : Value → Heap → Prop} {w : World} (hw : w.heap = H) (h : RunW P s H K) : Good P w K ((do pure (Next.value (← s)) : Sem Next).run P w) := by
  obtain ⟨a, w', h1, h2, h3⟩ := h w hw
  simp only [Sem.run_bind, h1, Result.andThen_ok, Sem.run_pure]
  exact ⟨h2, h3⟩
theorem good_runU {P : Program} {s : Sem Unit} {H : Heap} {K : Heap → Prop} {w : World} (hw : w.heap = H) (h : RunW P s H fun _ H' => K H') : Good P w (fun v H' => v = undef ∧ K H') ((do s; pure Next.skip : Sem Next).run P w) := by
  obtain ⟨a, w', h1, h2, h3⟩ := h w hw
  simp only [Sem.run_bind, h1, Result.andThen_ok, Sem.run_pure]
  exact ⟨h2, rfl, h3⟩

theorem repL_get (z : List Value) (hz : z ≠ []) : ∀ (n i : Nat), i < n * z.length → (repL z n)[i]? = z[i % z.length]?
  | 0, i, h => by simp at h
  | n + 1, i, h => by
    simp only [repL]
    by_cases hi : i < z.length
    · rw [List.getElem?_append_left hi, Nat.mod_eq_of_lt hi]
    · rw [List.getElem?_append_right (by omega), repL_get z hz n (i - z.length) (by rw [Nat.succ_mul] at h; omega)]
      rw [← Nat.mod_eq_sub_mod (by omega)]
theorem repL_length (z : List Value) : ∀ n, (repL z n).length = n * z.length
  | 0 => by simp [repL]
  | n + 1 => by simp [repL, repL_length z n, Nat.succ_mul, Nat.add_comm]
theorem repL_array (z : Array Value) (n : Nat) : (Array.range (n * z.size)).map (fun i => z[i % z.size]!) = ⟨repL z.toList n⟩ := by
  apply Array.ext'
  apply List.ext_getElem?
  intro i
  by_cases hz : z.toList = []
  · have : z.size = 0 := by rw [← Array.length_toList, hz]; rfl
    have h2 : (repL z.toList n).length = 0 := by simp [repL_length, this]
    simp [this]
    omega
  by_cases hi : i < n * z.size
  · have h1 := repL_get z.toList hz n i (by simpa using hi)
    simp only [Array.length_toList] at h1
    rw [h1]
    have hpos : 0 < z.size := by
      rw [← Array.length_toList]; exact List.length_pos_iff.2 hz
    have hlt := Nat.mod_lt i hpos
    simp [hi, hlt]
  · rw [List.getElem?_eq_none (by simp; omega), List.getElem?_eq_none (by rw [repL_length]; simp; omega)]

theorem buildSliceL_sound {P : Program} (t e : TypeId) (n : Nat) (parts : List (Nat × Value)) (l : List Value) (ht : P.underlying t = some (.slice e)) (hn : n * P.cellsOf e ≤ 16777216) (h : buildSliceL P e n parts = some l) (w : World) :
    (Instr.buildSlice t n parts.toArray).run P w = .ok (.slice (some ⟨w.heap.size, 0, none⟩) n n) (w.alloc (.cells ⟨l⟩ e)) := by
  unfold buildSliceL at h
  split at h
  · rename_i z hz
    obtain ⟨v, hv, hrun, hinf⟩ := zeroOf_run hz
    split at h
    · rename_i hlen
      have hvs : v.cells.size = P.cellsOf e := by rw [← Array.length_toList, hv, hlen]
      have hf := fill_fillL _ parts ⟨repL z n⟩ l h
      simp only [Instr.buildSlice, Sem.run_bind, run_underlying' ht, Result.andThen_ok, run_sizeOf' P e hinf]
      rw [if_neg (by omega)]
      by_cases h0 : n * P.cellsOf e = 0
      · have h1 : (repL z n).length = 0 := by rw [repL_length, hlen, h0]
        have h2 : repL z n = [] := List.length_eq_zero_iff.1 h1
        rw [h2] at hf
        rw [if_pos h0]
        have hf' : Instr.fill (fun i => some (i * P.cellsOf e, P.cellsOf e)) #[] parts = some ⟨l⟩ := hf
        have hr : Array.map (fun _ : Nat => (default : Value)) (Array.range 0) = #[] := by simp
        simp [h0]
        rw [hr, hf']
        simp [newRow]
      · rw [if_neg h0]
        have h1 := repL_array v.cells n
        rw [hvs, hv] at h1
        simp only [Sem.run_bind, hrun, Result.andThen_ok, Sem.run_pure, hvs, h1, hf]
        simp [newRow]
    · cases h
  · cases h

theorem write_sound (o : Oper) {H : Heap} {K : Value → Heap → Prop} (hev : ∀ x v, ev x = some v → ρ x = v) (hX : ∀ f, memN f X.calls = true → Bodied X.P f) (hρ : ∀ f, ρ (.func f) = .func (.func f) #[] #[])
    (h : writeOp X ev o H K) : ∀ w, w.heap = H → Good X.P w K ((execOp ρ o).run X.P w) := by
  intro w hw
  have hl : ∀ (l : Array Operand) vs, evList ev l.toList = some vs → l.map ρ = ⟨vs⟩ := fun l vs hvs => by
    apply Array.ext'; simp [evList_map (G := True) (fun x v h _ => hev x v h) _ _ hvs trivial]
  have hps : ∀ (l : Array (Nat × Operand)) vs, evParts ev l.toList = some vs → (l.map fun (i, x) => (i, ρ x)) = vs.toArray := fun l vs hvs => by
    apply Array.ext'; simp [← evParts_map (G := True) (fun x v h _ => hev x v h) _ _ hvs trivial]
  unfold writeOp at h
  split at h
  · rename_i t hop
    obtain ⟨z, hz, h⟩ := withV_some h
    obtain ⟨v, hv, hrun, _⟩ := zeroOf_run hz
    subst hw
    have : v.cells = ⟨z⟩ := by apply Array.ext'; simp [hv]
    simp [execOp, hop, Instr.alloc, hrun, newVar, newRow, this]
    exact ⟨⟨rfl, rfl, rfl⟩, h _ _ rfl rfl⟩
  · rename_i t x hop
    obtain ⟨v, hv, h⟩ := withV_some h
    subst hw
    simp [execOp, hop, Instr.box, hev x v hv, newVar, newRow]
    exact ⟨⟨rfl, rfl, rfl⟩, h _ _ rfl rfl⟩
  · rename_i t n ps hop
    obtain ⟨vs, hvs, h⟩ := withV_some h
    split at h
    · rename_i e ht
      obtain ⟨l, hl', h⟩ := withV_some h
      split at h
      · rename_i hn
        subst hw
        simp only [execOp, hop, hps ps vs hvs, Sem.run_bind, buildSliceL_sound t e n vs l ht hn hl' w, Result.andThen_ok, Sem.run_pure]
        exact ⟨⟨rfl, rfl, rfl⟩, h _ _ rfl rfl⟩
      · exact h.elim
    · exact h.elim
  · rename_i t r hop
    split at h
    · subst hw
      simp [execOp, hop, Instr.makeMap]
      exact ⟨⟨rfl, rfl, rfl⟩, h _ _ rfl rfl⟩
    · exact h.elim
  · rename_i t x y hop
    obtain ⟨a, ha, h⟩ := withV_some h
    obtain ⟨v, hv, h⟩ := withV_some h
    split at h
    · rename_i b off
      obtain ⟨hi, _, h⟩ := sized_info h
      split at h
      · rename_i hc
        subst hw
        obtain ⟨w', h1, h2, h3⟩ := run_storeAt hc.1 hi hc.2 h.1
        simp only [execOp, hop, hev x _ ha, hev y v hv, Sem.run_bind, h1, Result.andThen_ok, Sem.run_pure]
        exact ⟨h2, h.2 _ h3⟩
      · exact h.elim
    · exact h.elim
  · rename_i t l c hop
    obtain ⟨a, ha, h⟩ := withV_some h
    obtain ⟨b, hb, h⟩ := withV_some h
    have := good_run hw h
    simp only [execOp, hop, hev l a ha, hev c b hb]
    exact this.mono fun v H' hv => by obtain ⟨u, h1, h2⟩ := exT_ex hv; subst h1; exact h2
  · rename_i t m k x hop
    obtain ⟨a, ha, h⟩ := withV_some h
    obtain ⟨b, hb, h⟩ := withV_some h
    obtain ⟨v, hv, h⟩ := withV_some h
    simp only [execOp, hop, hev m a ha, hev k b hb, hev x v hv]
    exact (good_runU hw h).mono fun u H' hu => by obtain ⟨rfl, h2⟩ := hu; exact h2
  · rename_i t m k x hop
    obtain ⟨a, ha, h⟩ := withV_some h
    obtain ⟨b, hb, h⟩ := withV_some h
    obtain ⟨v, hv, h⟩ := withV_some h
    simp only [execOp, hop, hev m a ha, hev k b hb, hev x v hv]
    exact (good_runU hw h).mono fun u H' hu => by obtain ⟨rfl, h2⟩ := hu; exact h2
  · rename_i t m k hop
    obtain ⟨a, ha, h⟩ := withV_some h
    obtain ⟨b, hb, h⟩ := withV_some h
    simp only [execOp, hop, hev m a ha, hev k b hb]
    refine (good_run hw h).mono fun v H' hv => ?_
    split at hv
    · obtain ⟨u, n, h1, h2⟩ := exT_ex hv; subst h1; exact h2
    · exact hv.elim
  · rename_i t m k x hop
    obtain ⟨a, ha, h⟩ := withV_some h
    obtain ⟨b, hb, h⟩ := withV_some h
    obtain ⟨v, hv, h⟩ := withV_some h
    simp only [execOp, hop, hev m a ha, hev k b hb, hev x v hv]
    exact (good_runU hw h).mono fun u H' hu => by obtain ⟨rfl, h2⟩ := hu; exact h2
  · rename_i t x hop
    obtain ⟨a, ha, h⟩ := withV_some h
    simp only [execOp, hop, hev x a ha]
    exact (good_run hw h).mono fun v H' hv => by obtain ⟨r, h1, h2⟩ := hv; subst h1; exact h2
  · rename_i it s hop
    obtain ⟨a, ha, h⟩ := withV_some h
    simp only [execOp, hop, hev it a ha]
    refine (good_run hw h).mono fun v H' hv => ?_
    rcases hv with ⟨h1, h2⟩ | ⟨k, x, h1, h2⟩
    · subst h1; exact h2
    · subst h1; exact h2
  · rename_i s d x hop
    obtain ⟨a, ha, h⟩ := withV_some h
    simp only [execOp, hop, hev x a ha]
    exact (good_run hw h).mono fun v H' hv => by obtain ⟨u, h1, h2⟩ := exT_ex hv; subst h1; exact h2
  · rename_i cl hop
    split at h
    · rename_i f hcl
      obtain ⟨hf, h⟩ := memN_false h
      obtain ⟨vs, hvs, h⟩ := withV_some h
      obtain ⟨ss, hss, h⟩ := withV_some h
      have e2 : (execOp ρ o).run X.P w = .ok (.enter f ⟨vs⟩) w := by
        simp only [execOp, hop, resolve, hcl, hρ, Deferred.ofValue, invoke, hl _ _ hvs, Sem.run_bind, Sem.run_pure, Result.andThen_ok]
        rw [run_callFunc (hX f hf)]
        simp
      rw [e2]
      refine Good.mono (K := fun v H' => exRes ss fun u => v = u ∧ K u H') ⟨rfl, h w hw⟩ fun v H' hv => ?_
      obtain ⟨u, h1, h2⟩ := exRes_ex hv; subst h1; exact h2
    · rename_i x hx hcl
      obtain ⟨fv, hfv, hA⟩ := withV_some h
      clear h
      obtain ⟨vs, hvs, hB⟩ := withV_some hA
      clear hA
      obtain ⟨ss, hss, hC⟩ := withV_some hB
      clear hB
      obtain ⟨f, first, cap, rfl, h⟩ | ⟨l, rfl, h⟩ : (∃ f first cap, fv = .func (.func f) first cap ∧ (memN f X.calls = true ∧ CallF X.P f ⟨first.toList ++ vs ++ cap.toList⟩ H fun v H' => exRes ss fun u => v = u ∧ K u H')) ∨
          (∃ l, fv = .func (.yield l) #[] #[] ∧ YieldF X.P l vs H fun v H' => exRes ss fun u => v = u ∧ K u H') := by
        clear hev hρ
        cases fv <;> (try exact hC.elim)
        rename_i fn first cap
        cases fn <;> (try exact hC.elim)
        · exact .inl ⟨_, _, _, rfl, hC⟩
        · rcases first with ⟨_ | _⟩ <;> rcases cap with ⟨_ | _⟩ <;> (try exact hC.elim)
          exact .inr ⟨_, rfl, hC⟩
      · obtain ⟨hf, h⟩ := h
        have e2 : (execOp ρ o).run X.P w = .ok (.enter f ⟨first.toList ++ vs ++ cap.toList⟩) w := by
          simp only [execOp, hop, resolve, hcl, hev x _ hfv, Deferred.ofValue, invoke, hl _ _ hvs, Sem.run_bind, Sem.run_pure, Result.andThen_ok]
          rw [run_callFunc (hX f hf)]
          simp
        rw [e2]
        refine Good.mono (K := fun v H' => exRes ss fun u => v = u ∧ K u H') ⟨rfl, h w hw⟩ fun v H' hv => ?_
        obtain ⟨u, h1, h2⟩ := exRes_ex hv; subst h1; exact h2
      · obtain ⟨fn, tmps, assign, body, h1, h2⟩ := h w hw
        have e2 : (execOp ρ o).run X.P w = .ok (.round l fn tmps assign body) w := by
          simp only [execOp, hop, resolve, hcl, hev x _ hfv, Deferred.ofValue, invoke, hl _ _ hvs, Sem.run_bind, Sem.run_pure, Result.andThen_ok]
          simpa using h1
        rw [e2]
        refine Good.mono (K := fun v H' => exRes ss fun u => v = u ∧ K u H') ⟨rfl, h2⟩ fun v H' hv => ?_
        obtain ⟨u, h1, h2⟩ := exRes_ex hv; subst h1; exact h2
    · rename_i hcl
      obtain ⟨vs, hvs, h⟩ := withV_some h
      have := good_run hw h
      simp only [execOp, hop, resolve, hcl, pure_bind, invoke, builtin, hl _ _ hvs]
      exact this.mono fun v H' hv => by obtain ⟨a, n, c, h1, h2⟩ := hv; subst h1; exact h2
    · rename_i hcl
      obtain ⟨vs, hvs, h⟩ := withV_some h
      have := good_run hw h
      simp only [execOp, hop, resolve, hcl, pure_bind, invoke, builtin, hl _ _ hvs]
      exact this.mono fun v H' hv => by obtain ⟨n, h1, h2⟩ := hv; subst h1; exact h2
    · rename_i hcl
      obtain ⟨vs, hvs, h⟩ := withV_some h
      have := good_run hw h
      simp only [execOp, hop, resolve, hcl, pure_bind, invoke, builtin, hl _ _ hvs]
      exact this
    · rename_i hcl
      obtain ⟨vs, hvs, h⟩ := withV_some h
      have := good_run hw h
      simp only [execOp, hop, resolve, hcl, pure_bind, invoke, builtin, hl _ _ hvs]
      exact this
    · exact h.elim
  · exact h.elim
end
end Go.Nm
