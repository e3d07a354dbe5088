/-
  The engine, part 3: operations that look at no world, all of them.
-/
import Derived.Test.YtomdcdfcdeaabaaGreatE2
namespace Go.Nm
open Go

section
variable {X : Ctx} {ρ : Operand → Value} {ev : Operand → Option Value} {c : Option Prop} {G : Prop} {P : Program} {K : Value → Prop}

theorem zeroOf_run {t : TypeId} {z : List Value} (h : zeroOf P t = some z) : ∃ v, v.cells.toList = z ∧ (∀ w, (zeroValue t).run P w = .ok v w) ∧ P.info? t ≠ none := by
  unfold zeroOf at h
  split at h
  · rename_i i hi
    split at h
    · rename_i v hv
      cases h
      exact ⟨v, rfl, fun w => by simp [zeroValue, typeInfo, hi, hv], by simp [hi]⟩
    · cases h
  · cases h

theorem setCells_length : ∀ (l : List Value) (o : Nat) (r : List Value), (setCells l o r).length = l.length
  | _, _, [] => rfl
  | l, o, v :: r => by simp [setCells, setCells_length, lset_eq]

theorem fold_setCells (off : Nat) : ∀ (l : List Value) (k : Nat) (cells : Array Value),
    ((l.zipIdx k).foldl (fun cs (x : Value × Nat) => cs.setIfInBounds (off + x.2) x.1) cells).toList = setCells cells.toList (off + k) l
  | [], _, _ => rfl
  | v :: r, k, cells => by
    simp only [List.zipIdx_cons, List.foldl_cons, setCells]
    rw [fold_setCells off r (k + 1)]
    simp [lset_eq, Nat.add_assoc]

theorem fill_fillL (place : Nat → Option (Nat × Nat)) : ∀ (parts : List (Nat × Value)) (cells : Array Value) (l : List Value),
    fillL place cells.toList parts = some l → Instr.fill place cells parts = some ⟨l⟩
  | [], cells, l, h => by simp [fillL] at h; subst h; simp [Instr.fill]
  | (i, v) :: rest, cells, l, h => by
    simp only [fillL] at h
    simp only [Instr.fill]
    cases hp : place i with
    | none => simp [hp] at h
    | some p =>
      obtain ⟨off, size⟩ := p
      simp only [hp] at h ⊢
      split at h
      · rename_i hc
        have h1 : v.cells.size = size := by simpa using hc.1
        have h2 : off + v.cells.size ≤ cells.size := by have := hc.2; simp at this; omega
        rw [if_neg (by simp; exact ⟨h1, by omega⟩)]
        have := fold_setCells off v.cells.toList 0 cells
        refine fill_fillL place rest _ l ?_
        rw [← h]
        congr 1
        rw [← Array.foldl_toList, Array.toList_zipIdx]
        simpa using this
      · cases h

theorem places_run : ∀ (fs : List Field) (w : World), allInfo P fs = true →
    (fs.mapM (m := Sem) fun f => do pure (f.offset, ← sizeOf f.type)).run P w = .ok (fs.map fun f => (f.offset, P.cellsOf f.type)) w
  | [], w, _ => by simp
  | f :: r, w, h => by
    simp only [allInfo, Bool.and_eq_true] at h
    have hi : P.info? f.type ≠ none := by intro h0; simp [h0] at h
    have ih := places_run r w h.2
    simp only [bind_pure_comp] at ih
    simp [List.mapM_cons, run_sizeOf' P _ hi, ih]

theorem buildL_sound (t : TypeId) (parts : List (Nat × Value)) (l : List Value) (h : buildL P t parts = some l) (w : World) :
    (Instr.build t parts.toArray).run P w = .ok (.agg ⟨l⟩) w := by
  unfold buildL at h
  split at h
  · rename_i z fs hz ht
    obtain ⟨v, hv, hrun, _⟩ := zeroOf_run hz
    split at h
    · rename_i ha
      have hp := places_run (P := P) fs.toList w ha
      have hf : Instr.fill (fun x => (fs.map fun f => (f.offset, P.cellsOf f.type))[x]?) v.cells parts = some ⟨l⟩ := by
        have := fill_fillL (offOf P fs.toList) parts v.cells l (by rw [hv]; exact h)
        rw [← this]
        congr 1
        funext i
        simp only [offOf, lget_eq]
        cases hfi : fs.toList[i]? with
        | none => simp at hfi ⊢; exact hfi
        | some f => have hfi' : fs[i]? = some f := by simpa using hfi
                    simp [hfi']
      have hp' : (fs.mapM (m := Sem) fun f => do pure (f.offset, ← sizeOf f.type)).run P w = .ok (fs.map fun f => (f.offset, P.cellsOf f.type)) w := by
        rw [Array.mapM_eq_mapM_toList]
        simp only [Sem.run_map, hp, Result.andThen_ok]
        congr 1
        apply Array.ext'
        simp
      simp only [Instr.build, Sem.run_bind, hrun, Result.andThen_ok, run_underlying' ht, hp']
      simp only [hf, Sem.run_pure]
    · cases h
  · rename_i z n e hz ht
    obtain ⟨v, hv, hrun, _⟩ := zeroOf_run hz
    split at h
    · rename_i i hi
      have hf := fill_fillL _ parts v.cells l (by rw [hv]; exact h)
      simp only [Instr.build, Sem.run_bind, hrun, Result.andThen_ok, run_underlying' ht, run_sizeOf' P e (by simp [hi])]
      simp [hf]
    · cases h
  · cases h

theorem nilCheck_sound (o : Oper) (x : Operand) (hop : o.op = .nilCheck x) (hg : ∀ p, gt c p → G → p) (h : nilCheckP (ρ x) c K) :
    ∃ v, K v ∧ (G → ∀ w, (execOp ρ o).run P w = .ok (.value v) w) := by
  unfold nilCheckP at h
  split at h
  · rename_i a ha
    have key : ∃ p, gt c p ∧ (p → a = some ⟨adrB a, adrO a, none⟩) ∧ K (.pointer (some ⟨adrB a, adrO a, none⟩)) := by
      cases c with
      | none => exact ⟨_, (NN_iff.1 h).1, id, (NN_iff.1 h).2⟩
      | some c => exact ⟨isA a, h.1, isA_iff.1, h.2⟩
    obtain ⟨p, h1, h3, h2⟩ := key
    refine ⟨_, h2, fun g w => ?_⟩
    have := h3 (hg _ h1 g)
    generalize adrB a = b at *
    generalize adrO a = o' at *
    subst this
    simp [execOp, hop, ha]
  · rename_i f a b ha; exact ⟨_, h, fun _ w => by simp [execOp, hop, ha]⟩
  · rename_i f a b ha; exact ⟨_, h, fun _ w => by simp [execOp, hop, ha]⟩
  · exact h.elim

theorem convP_sound (s d : TypeId) (x : Value) (h : convP P s d x K) : ∃ v, K v ∧ ∀ w, (convert s d x).run P w = .ok v w := by
  unfold convP at h
  split at h
  · rename_i ds k k' n hs hd
    exact ⟨_, h, fun w => by cases ds <;> simp [convert, run_underlying' hs, run_underlying' hd, Conv.intToInt]⟩
  · rename_i ds b hs hd
    exact ⟨_, h, fun w => by cases ds <;> simp [convert, run_underlying' hs, run_underlying' hd]⟩
  · exact h.elim

theorem lenP_sound (t : TypeId) (x : Value) (ts : Array TypeId) (t' : TypeId) (args : Array Value) (ht0 : ts[0]? = some t) (ha0 : args[0]? = some x) (h : lenP P t x K) :
    ∃ v, K v ∧ ∀ w, (Builtin.len_ ts t' args).run P w = .ok v w := by
  unfold lenP at h
  split at h
  · rename_i s ht; exact ⟨_, h, fun w => by simp [Builtin.len_, ht0, ha0, run_underlying' ht, goInt]⟩
  · rename_i e a n cp ht; exact ⟨_, h, fun w => by simp [Builtin.len_, ht0, ha0, run_underlying' ht, goInt]⟩
  · rename_i x n e ht; exact ⟨_, h, fun w => by cases x <;> simp [Builtin.len_, ht0, ha0, run_underlying' ht, goInt]⟩
  · exact h.elim

theorem mmP_sound_max (vs : List Value) (ts : Array TypeId) (t : TypeId) (h : mmP true vs K) : ∃ v, K v ∧ ∀ w, (Builtin.max_ ts t ⟨vs⟩).run P w = .ok v w := by
  unfold mmP at h
  split at h
  · exact ⟨_, h, fun w => by simp [Builtin.max_, Builtin.max2]⟩
  · exact ⟨_, h, fun w => by simp [Builtin.max_, Builtin.max2]⟩
  · exact h.elim
theorem mmP_sound_min (vs : List Value) (ts : Array TypeId) (t : TypeId) (h : mmP false vs K) : ∃ v, K v ∧ ∀ w, (Builtin.min_ ts t ⟨vs⟩).run P w = .ok v w := by
  unfold mmP at h
  split at h
  · exact ⟨_, h, fun w => by simp [Builtin.min_, Builtin.min2]⟩
  · exact ⟨_, h, fun w => by simp [Builtin.min_, Builtin.min2]⟩
  · exact h.elim

/-- **Operations that look at no world.** -/
theorem pure_sound (o : Oper) {pk : Operand → Operand → Operand → Option (Bool × Value × Value)} (hg : ∀ p, gt c p → G → p) (hev : ∀ x v, ev x = some v → G → ρ x = v)
    (hpk : ∀ a b d r, pk a b d = some r → G → ρ a = .bool r.1 ∧ (r.1 = true → ρ b = r.2.1) ∧ (r.1 = false → ρ d = r.2.2)) (hP : P = X.P)
    (h : pureOp X ev pk c o.op K) : ∃ v, K v ∧ (G → ∀ w, (execOp ρ o).run P w = .ok (.value v) w) := by
  subst hP
  cases hop : o.op <;> rw [hop] at h <;> simp only [pureOp] at h <;> (try exact h.elim)
  case move x => obtain ⟨v, hv, h⟩ := withV_some h; exact ⟨v, h, fun g w => by simp [execOp, hop, hev x v hv g]⟩
  case assign x => obtain ⟨v, hv, h⟩ := withV_some h; exact ⟨v, h, fun g w => by simp [execOp, hop, hev x v hv g]⟩
  case pick a b d =>
    obtain ⟨r, hr, h⟩ := withV_some h
    refine ⟨_, h, fun g w => ?_⟩
    obtain ⟨h1, h2, h3⟩ := hpk a b d r hr g
    obtain ⟨q, x, y⟩ := r
    cases q
    · simp [execOp, hop, h1, asBool, h3 rfl, pickV_false]
    · simp [execOp, hop, h1, asBool, h2 rfl, pickV_true]
  case nilCheck x =>
    obtain ⟨v, hv, h⟩ := withV_some h
    by_cases g : G
    · have hx := hev x v hv g
      obtain ⟨u, h1, h2⟩ := nilCheck_sound (ρ := ρ) (K := K) (c := c) (P := X.P) o x hop hg (by rw [hx]; exact h)
      exact ⟨u, h1, h2⟩
    · unfold nilCheckP at h
      split at h
      · cases c with
        | none => exact ⟨_, (NN_iff.1 h).2, fun g' => absurd g' g⟩
        | some c => exact ⟨_, h.2, fun g' => absurd g' g⟩
      · exact ⟨_, h, fun g' => absurd g' g⟩
      · exact ⟨_, h, fun g' => absurd g' g⟩
      · exact h.elim
  case binOp op t x y yt =>
    obtain ⟨a, ha, h⟩ := withV_some h
    obtain ⟨b, hb, h⟩ := withV_some h
    obtain ⟨v, h1, h2⟩ := binP_sound op t a b x y hg h
    refine ⟨v, h1, fun g w => ?_⟩
    have := h2 g w
    simp only [Sem.run_bind] at this
    simp only [execOp, hop, hev x a ha g, hev y b hb g, Sem.run_bind, Sem.run_pure]
    generalize (eqGuard op t x y a b).run X.P w = r at this ⊢
    cases r with
    | halt hh w' => simp at this
    | ok u w' =>
      simp only [Result.andThen_ok] at this ⊢
      rw [this]; rfl
  case unOp op t x =>
    obtain ⟨a, ha, h⟩ := withV_some h
    obtain ⟨v, h1, h2⟩ := unP_sound (P := X.P) op a h
    exact ⟨v, h1, fun g w => by simp [execOp, hop, hev x a ha g, h2 w]⟩
  case convert s d x =>
    obtain ⟨a, ha, h⟩ := withV_some h
    obtain ⟨v, h1, h2⟩ := convP_sound s d a h
    exact ⟨v, h1, fun g w => by simp [execOp, hop, hev x a ha g, h2 w]⟩
  case fieldAddr t x f =>
    obtain ⟨a, ha, h⟩ := withV_some h
    obtain ⟨v, h1, h2⟩ := fieldAddrP_sound t a f h
    exact ⟨v, h1, fun g w => by simp [execOp, hop, hev x a ha g, h2 w]⟩
  case field t x f =>
    obtain ⟨a, ha, h⟩ := withV_some h
    unfold fieldP at h
    split at h
    · split at h
      · split at h
        · obtain ⟨v, h1, h2⟩ := sh_ex h
          exact ⟨v, h2, fun g w => by simp [execOp, hop, hev x a ha g, hg _ h1 g w]⟩
        · exact h.elim
      · exact h.elim
    · exact h.elim
  case indexAddr t x i =>
    obtain ⟨a, ha, h⟩ := withV_some h
    obtain ⟨b, hb, h⟩ := withV_some h
    obtain ⟨v, h1, h2⟩ := indexAddrP_sound t a b hg h
    exact ⟨v, h1, fun g w => by simp [execOp, hop, hev x a ha g, hev i b hb g, h2 g w]⟩
  case index t x i =>
    obtain ⟨a, ha, h⟩ := withV_some h
    obtain ⟨b, hb, h⟩ := withV_some h
    obtain ⟨v, h1, h2⟩ := indexP_sound t a b hg h
    exact ⟨v, h1, fun g w => by simp [execOp, hop, hev x a ha g, hev i b hb g, h2 g w]⟩
  case extract t i =>
    obtain ⟨a, ha, h⟩ := withV_some h
    cases a <;> simp only at h
    case tuple vs =>
      obtain ⟨v, hv, h⟩ := withV_some h
      rw [lget_eq] at hv
      have hv' : vs[i]? = some v := by simpa using hv
      exact ⟨v, h, fun g w => by simp [execOp, hop, hev t _ ha g, Instr.extract, hv']⟩
  case slice t x lo hi mx =>
    cases mx with
    | some m => exact h.elim
    | none =>
      obtain ⟨a, ha, h⟩ := withV_some h
      obtain ⟨l, hl, h⟩ := withV_some h
      obtain ⟨u, hu, h⟩ := withV_some h
      obtain ⟨v, h1, h2⟩ := sliceP_sound t a l u hg h
      exact ⟨v, h1, fun g w => by simp [execOp, hop, hev x a ha g, evOpt_map hev lo l hl g, evOpt_map hev hi u hu g, h2 g w]⟩
  case build t ps =>
    obtain ⟨vs, hvs, h⟩ := withV_some h
    obtain ⟨l, hl, h⟩ := withV_some h
    refine ⟨_, h, fun g w => ?_⟩
    have hm := evParts_map hev ps.toList vs hvs g
    have hb := buildL_sound (P := X.P) t vs l hl w
    have he : (ps.map fun (i, x) => (i, ρ x)) = vs.toArray := by
      apply Array.ext'; simp [← hm]
    simp only [execOp, hop, he, Sem.run_bind, hb, Result.andThen_ok, Sem.run_pure]
  case makeInterface t x =>
    obtain ⟨a, ha, h⟩ := withV_some h
    split at h
    · exact h.elim
    · rename_i d hd ht
      refine ⟨_, h, fun g w => ?_⟩
      have : ∀ m, d ≠ .interface m := fun m he => hd m he
      cases d <;> first | (exact absurd rfl (this _)) | simp [execOp, hop, hev x a ha g, Instr.makeInterface, run_underlying' ht]
    · exact h.elim
  case makeFunc fn a b =>
    obtain ⟨va, ha, h⟩ := withV_some h
    obtain ⟨vb, hb, h⟩ := withV_some h
    refine ⟨_, h, fun g w => ?_⟩
    have e1 : a.map ρ = ⟨va⟩ := by apply Array.ext'; simp [evList_map hev _ _ ha g]
    have e2 : b.map ρ = ⟨vb⟩ := by apply Array.ext'; simp [evList_map hev _ _ hb g]
    simp [execOp, hop, e1, e2, Instr.makeFunc]
  case call cl =>
    split at h
    · rename_i t ts hcl hts
      obtain ⟨vs, hvs, h⟩ := withV_some h
      split at h
      · rename_i v r
        have ht0 : cl.argTypes[0]? = some t := by rw [← Array.getElem?_toList, hts]; rfl
        obtain ⟨u, h1, h2⟩ := lenP_sound t v cl.argTypes o.type ⟨v :: r⟩ ht0 (by simp) h
        refine ⟨u, h1, fun g w => ?_⟩
        have e1 : cl.args.map ρ = ⟨v :: r⟩ := by apply Array.ext'; simp [evList_map hev _ _ hvs g]
        simp [execOp, hop, resolve, hcl, e1, invoke, builtin, h2 w]
      · exact h.elim
    · rename_i hcl
      obtain ⟨vs, hvs, h⟩ := withV_some h
      obtain ⟨u, h1, h2⟩ := mmP_sound_max (P := X.P) vs cl.argTypes o.type h
      refine ⟨u, h1, fun g w => ?_⟩
      have e1 : cl.args.map ρ = ⟨vs⟩ := by apply Array.ext'; simp [evList_map hev _ _ hvs g]
      simp [execOp, hop, resolve, hcl, e1, invoke, builtin, h2 w]
    · rename_i hcl
      obtain ⟨vs, hvs, h⟩ := withV_some h
      obtain ⟨u, h1, h2⟩ := mmP_sound_min (P := X.P) vs cl.argTypes o.type h
      refine ⟨u, h1, fun g w => ?_⟩
      have e1 : cl.args.map ρ = ⟨vs⟩ := by apply Array.ext'; simp [evList_map hev _ _ hvs g]
      simp [execOp, hop, resolve, hcl, e1, invoke, builtin, h2 w]
    · exact h.elim

end
end Go.Nm
