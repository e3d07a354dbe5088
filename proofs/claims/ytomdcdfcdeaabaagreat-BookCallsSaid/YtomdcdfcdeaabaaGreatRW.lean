/-
  From a call of a law to its row: what the arguments' reading says of the heap, and what is asked behind the call.
-/
import Derived.Test.YtomdcdfcdeaabaaGreatSF
import Derived.Test.YtomdcdfcdeaabaaGreatKL
import Derived.ProofKit
import Derived.Carry
import Derived.OpenShut
import Derived.ChangeSame
set_option linter.unusedVariables false
set_option linter.unusedSimpArgs false
namespace Go.Nm
open Go Go.ChangeShapes Go.WideShapes Go.ChangeAt Go.RowKit

section
variable {H : Type} {enc : TypeId × Value → H} {P : Program}

theorem post_of_below' {f : Func} {s : ChangeSpec} {apart fresh handsOn again : Bool} {W W' : World} {args : Array Value} {v : Value} {ds gs : List (DataW H)} {before pa pv : List MemPlace}
    (hW : DataW.Whole enc P f.params.toList s.vars apart W args.toList ds gs before)
    (hres : ∀ (b : Nat) (sp : Nat → Bool) (hd : Bool), DataW.TrodAll enc P W' b sp hd f.resultTypes.toList (v.resultList f.resultTypes.size) (s.fn H (ds ++ gs)).results [])
    (hargs : ∀ sp : Nat → Bool, (∀ p ∈ before, sp p.block = true) → DataW.TrodAll enc P W' 0 sp true f.params.toList args.toList (s.fn H (ds ++ gs)).args pa)
    (hvars : ∀ sp : Nat → Bool, (∀ p ∈ before, sp p.block = true) → DataW.TrodVars enc P W' sp s.vars (s.fn H (ds ++ gs)).vars pv)
    (hps : before = pa ++ pv) (hb : Below W.heap.size W W')
    (hok : ∀ (j : Nat) (t : TypeId) (r : Value), f.resultTypes[j]? = some t → (v.resultList f.resultTypes.size)[j]? = some r → Value.okWide P W' .any 0 t r) :
    s.post enc P f apart fresh handsOn again W args v W' := by
  have hlt : ∀ p ∈ before, p.block < W.heap.size := fun p hp => hW.lt p hp
  have hold : ∀ p ∈ before, (fun b => decide (b < W.heap.size)) p.block = true := fun p hp => by simpa using hlt p hp
  refine ⟨ds, gs, before, [], pa, pv, hW, hres _ _ _, hargs _ hold, hvars _ hold, World.keptBut_mono (fun p hp => ⟨hp, ?_⟩) (hb.frame (· ∈ before)), fun _ => ?_⟩
  · rw [hps, List.mem_append] at hp
    exact Or.inr hp
  · obtain ⟨_, _, _, _, _, hz, hn⟩ := hW
    refine ⟨hok, _, _, ([] ++ pa) ++ pv, ⟨[] ++ pa, pv, trodAll_append (hargs _ (fun _ _ => rfl)) (hres _ _ _), hvars _ (fun _ _ => rfl), rfl, ?_, ?_⟩, ?_⟩
    · intro b off hp
      have hin : MemPlace.cell b off ∈ before := by rw [hps]; simpa using hp
      rw [hb.frozen (hlt _ hin)]
      exact hz b off hin
    · intro ha
      have := hn ha
      rw [hps] at this
      simpa using this
    · intro p hp _
      rw [hps]
      simpa using hp

theorem trodAll_carry (hl : laidOutB P = true) {W W' : World} (hb : Below W.heap.size W W') {sp : Nat → Bool} : ∀ {ts : List TypeId} {vs : List Value} {ds : List (DataW H)} {ps : List MemPlace}, (∀ t ∈ ts, P.readableRec t = true ∧ t < P.types.size) →
    DataW.TrodAll enc P W 0 (fun _ => true) true ts vs ds ps → (∀ x ∈ ps, x.block < W.heap.size) → (∀ x ∈ ps, sp x.block = true) → DataW.TrodAll enc P W' 0 sp true ts vs ds ps
  | [], [], [], _, _, h, _, _ => h
  | [], [], _ :: _, _, _, h, _, _ => h.elim
  | [], _ :: _, _, _, _, h, _, _ => h.elim
  | _ :: _, [], _, _, _, h, _, _ => h.elim
  | _ :: _, _ :: _, [], _, _, h, _, _ => h.elim
  | t :: ts, v :: vs, d :: ds, ps, hr, h, hlt, hsp => by
    obtain ⟨p, q, h1, h2, rfl⟩ := h
    have hr1 := hr t (by simp)
    exact ⟨p, q, Go.WideElems.Trod_stays hl hr1.1 hr1.2 h1 (fun x hx => hb.same (hlt x (by simp [hx]))) (fun x hx => hsp x (by simp [hx])), trodAll_carry hl hb (fun t ht => hr t (by simp [ht])) h2 (fun x hx => hlt x (by simp [hx])) (fun x hx => hsp x (by simp [hx])), rfl⟩

theorem size_grow {w w' : World} (g : Grow w.heap w'.heap) (r : Rest w w') : Below w.heap.size w w' := ⟨r.os, r.tape, r.output, g.size, fun k hk => g k hk⟩

/-- A law that answers true and leaves all that was. -/
theorem law_post (laid : laidOutB P = true) {fid : FuncId} {f : Func} {s : ChangeSpec} {apart fresh handsOn again : Bool} {W : World} {args : Array Value} {ds gs : List (DataW H)} {before : List MemPlace} {tb : TypeId}
    (hW : DataW.Whole enc P f.params.toList s.vars apart W args.toList ds gs before) (hvars : s.vars = []) (hres : f.resultTypes = #[tb]) (hbool : P.underlying tb = some .bool)
    (hfn : (s.fn H (ds ++ gs)) = { results := [.lit (.bool true)], args := ds }) (hread : f.params.toList.all (fun t => P.readableRec t && decide (t < P.types.size)) = true)
    (hc : CallF P fid args W.heap fun v H' => v = .bool true ∧ Grow W.heap H') :
    Calls P fid args W fun e W' => ∃ v, e = .returned v ∧ s.post enc P f apart fresh handsOn again W args v W' := by
  refine (hc W rfl).mono fun e W' he => ?_
  cases e <;> simp only [Fin] at he
  obtain ⟨hrest, rfl, hg⟩ := he
  have hb := size_grow hg hrest
  refine ⟨_, rfl, ?_⟩
  have hW' := hW
  obtain ⟨p, q, hA, hV, hbe, hfz, hnd⟩ := hW
  rw [hvars] at hV
  obtain ⟨rfl, rfl⟩ := trodVars_none hV
  have hread' : ∀ t ∈ f.params.toList, P.readableRec t = true ∧ t < P.types.size := fun t ht => by
    have := List.all_eq_true.1 hread t ht
    simpa using this
  refine post_of_below' (pa := p) (pv := []) hW' (fun _ _ _ => ?_) (fun sp hsp => ?_) (fun sp _ => ?_) hbe hb (ok_one hres rfl (okWide_bool_mk hbool _))
  · rw [hfn, hres]
    exact trodAll_cons_mk (shut_bool hbool _) trodAll_mk0
  · rw [hfn]
    have hlt : ∀ x ∈ p, x.block < W.heap.size := fun x hx => hW'.lt x (by rw [hbe]; simp [hx])
    exact trodAll_carry laid hb hread' hA hlt (fun x hx => hsp x (by rw [hbe]; simp [hx]))
  · rw [hvars, hfn]; rfl
end

/-! ### opening arguments -/
/-- Cells that read as a type. -/
def Reads {H : Type} (enc : TypeId × Value → H) (P : Program) (W : World) (t : TypeId) (cs : List Value) : Prop := ∃ fuel x, DataW.trod enc P W 0 (fun _ => true) true fuel t cs = some x

section
variable {H : Type} {enc : TypeId × Value → H} {P : Program} {W : World}
theorem reads_int {t : TypeId} {k : IntKind} {cs : List Value} (ht : P.underlying t = some (.int k)) (h : Reads enc P W t cs) : ∃ n, cs = [.int k n] ∧ k.min ≤ n ∧ n ≤ k.max := by
  obtain ⟨fuel, x, h⟩ := h
  obtain ⟨n, h1, _, h2⟩ := DataW.trod_int ht h
  simp only [Lit.wf, Bool.and_eq_true, decide_eq_true_eq] at h2
  exact ⟨n, h1, h2.1, h2.2⟩
theorem reads_bool {t : TypeId} {cs : List Value} (ht : P.underlying t = some .bool) (h : Reads enc P W t cs) : ∃ b, cs = [.bool b] := by
  obtain ⟨fuel, x, h⟩ := h
  obtain ⟨b, h1, _⟩ := DataW.trod_bool ht h
  exact ⟨b, h1⟩
theorem reads_string {t : TypeId} {cs : List Value} (ht : P.underlying t = some .string) (h : Reads enc P W t cs) : ∃ s : ByteArray, cs = [.string s] ∧ s.size ≤ maxLen := by
  obtain ⟨fuel, x, h⟩ := h
  obtain ⟨s, h1, _, h2⟩ := DataW.trod_string ht h
  exact ⟨s, h1, h2⟩
theorem reads_struct {t : TypeId} {fs : Array Field} {cs : List Value} (ht : P.underlying t = some (.struct fs)) (h : Reads enc P W t cs) :
    cs.length = P.cellsOf t ∧ ∀ f ∈ fs.toList, Reads enc P W f.type ((cs.drop f.offset).take (P.cellsOf f.type)) := by
  obtain ⟨fuel, x, h⟩ := h
  obtain ⟨xs, n, _, _, h1, h2, h3⟩ := DataW.trod_struct ht h
  refine ⟨h1, fun f hf => ?_⟩
  obtain ⟨i, hi⟩ := List.getElem?_of_mem hf
  have hi' : fs[i]? = some f := by simpa using hi
  have hlt : i < xs.length := by rw [h2]; have := (List.getElem?_eq_some_iff.1 hi).1; simpa using this
  have := h3 i f hi'
  rw [List.getElem?_eq_getElem hlt] at this
  exact ⟨n, _, this⟩
theorem mapM_get {α β : Type} {f : α → Option β} : ∀ {l : List α} {r : List β}, l.mapM f = some r → r.length = l.length ∧ ∀ (i : Nat) x, l[i]? = some x → f x = r[i]?
  | [], r, h => by simp at h; subst h; simp
  | a :: l, r, h => by
    rw [List.mapM_cons] at h
    cases hf : f a with
    | none => simp [hf] at h
    | some b =>
      cases hg : l.mapM f with
      | none => simp [hf, hg] at h
      | some bs =>
        simp [hf, hg] at h
        subst h
        obtain ⟨h1, h2⟩ := mapM_get hg
        refine ⟨by simp [h1], fun i x hx => ?_⟩
        cases i with
        | zero => simp at hx; subst hx; simpa using hf
        | succ i => simpa using h2 i x (by simpa using hx)
theorem cells?_spec {base : Nat} {a : Addr} {n : Nat} {vs : List Value} (h : W.cells? base a n = some vs) : vs.length = n ∧ ∀ j v, lget vs j = some v → W.cell? (a.add j) = some v := by
  unfold World.cells? at h
  split at h
  · obtain ⟨h1, h2⟩ := mapM_get h
    rw [List.length_range] at h1
    refine ⟨h1, fun j v hj => ?_⟩
    have hlt := lget_lt hj
    rw [h2 j j (by rw [List.getElem?_range (by omega)]), ← lget_eq']; exact hj
  · cases h
theorem cell?_at {a : Addr} {v : Value} (h : W.cell? a = some v) : a = ⟨a.block, a.off, none⟩ ∧ cellAt W.heap a.block a.off = some v := by
  unfold World.cell? at h
  split at h
  · rename_i c x y hb
    split at h
    · cases h
    · rename_i hs
      refine ⟨?_, by unfold cellAt; rw [hb]; exact h⟩
      obtain ⟨b, o, s⟩ := a
      cases s <;> simp_all
  · cases h
/-- A slice: element for element. -/
theorem reads_slice {t e : TypeId} {cs : List Value} (ht : P.underlying t = some (.slice e)) (hs : 0 < P.cellsOf e) (h : Reads enc P W t cs) :
    ∃ a n c, cs = [.slice a n c] ∧ n ≤ c ∧ c ≤ maxLen ∧ ∀ i, i < n → ∃ vs, Reads enc P W e vs ∧ vs.length = P.cellsOf e ∧ a = some ⟨adrB a, adrO a, none⟩ ∧ ∀ f v, lget vs f = some v → cellAt W.heap (adrB a) (adrO a + i * P.cellsOf e + f) = some v := by
  obtain ⟨fuel, x, h⟩ := h
  rcases DataW.trod_slice ht h with ⟨h1, _⟩ | ⟨a, len, cap, elems, rest, n, _, h1, _, hb, hl, hm, hel, he, _⟩
  · exact ⟨none, 0, 0, h1, Nat.le_refl _, Nat.zero_le _, fun i hi => absurd hi (by omega)⟩
  · have each : ∀ i, i < len → ∃ vs, W.cells? 0 (a.add (i * P.cellsOf e)) (P.cellsOf e) = some vs ∧ Reads enc P W e vs := by
      intro i hi
      have h2 := he i hi
      rw [List.getElem?_eq_getElem (by omega)] at h2
      obtain ⟨vs, h3, h4⟩ := Option.bind_eq_some_iff.1 h2
      exact ⟨vs, h3, n, _, h4⟩
    refine ⟨some a, len, cap, h1, hl, hm, fun i hi => ?_⟩
    have hspot : a = ⟨a.block, a.off, none⟩ := by
      obtain ⟨vs, h3, _⟩ := each 0 (by omega)
      obtain ⟨h4, h5⟩ := cells?_spec h3
      have h6 := h5 0 _ (lget_some (by omega))
      simp only [Nat.zero_mul] at h6
      have h7 : (a.add 0).add 0 = a := by simp [Addr.add]
      rw [h7] at h6
      exact (cell?_at h6).1
    obtain ⟨vs, h3, h4⟩ := each i hi
    obtain ⟨h5, h6⟩ := cells?_spec h3
    refine ⟨vs, h4, h5, by rw [adrB, adrO, ← hspot], fun f v hf => ?_⟩
    have h7 := h6 f v hf
    rw [hspot, Addr_add, Addr_add] at h7
    exact (cell?_at h7).2
theorem lift_list {α : Type} {n : Nat} {Q : Nat → α → Prop} (h : ∀ i, i < n → ∃ x, Q i x) : ∃ xs : List α, xs.length = n ∧ ∀ i (hi : i < xs.length), Q i xs[i] := by
  induction n with
  | zero => exact ⟨[], rfl, fun i hi => absurd hi (by simp)⟩
  | succ n ih =>
    obtain ⟨xs, h1, h2⟩ := ih fun i hi => h i (by omega)
    obtain ⟨x, hx⟩ := h n (by omega)
    refine ⟨xs ++ [x], by simp [h1], fun i hi => ?_⟩
    by_cases e : i < xs.length
    · rw [List.getElem_append_left e]; exact h2 i e
    · have : i = n := by simp at hi; omega
      subst this
      rw [List.getElem_append_right (by omega)]
      simp [h1]; exact hx
/-- A slice as a list: 'el' says how the cells of an element that reads are those of a datum. -/
theorem reads_rows {α : Type} {ec : α → List Value} {Q : α → Prop} {t e sz : TypeId} {cs : List Value} (ht : P.underlying t = some (.slice e)) (hs : P.cellsOf e = sz) (hp : 0 < sz) (h : Reads enc P W t cs)
    (el : ∀ vs, Reads enc P W e vs → vs.length = sz → ∃ x, vs = ec x ∧ Q x) (hec : ∀ x, (ec x).length = sz) :
    ∃ a c xs, cs = [.slice a xs.length c] ∧ xs.length ≤ maxLen ∧ rdS W.heap a (flat ec xs) ∧ ∀ x ∈ xs, Q x := by
  subst hs
  obtain ⟨a, n, c, h1, h2, h3, h4⟩ := reads_slice ht hp h
  have h5 : ∀ i, i < n → ∃ x : α, Q x ∧ a = some ⟨adrB a, adrO a, none⟩ ∧ ∀ f v, lget (ec x) f = some v → cellAt W.heap (adrB a) (adrO a + i * P.cellsOf e + f) = some v := by
    intro i hi
    obtain ⟨vs, r1, r2, r3, r4⟩ := h4 i hi
    obtain ⟨x, rfl, hq⟩ := el vs r1 r2
    exact ⟨x, hq, r3, r4⟩
  obtain ⟨xs, h6, h7⟩ := lift_list h5
  refine ⟨a, c, xs, by rw [h6]; exact h1, by omega, fun j v hj => ?_, fun x hx => ?_⟩
  · have hlt := lget_lt hj
    rw [flat_length hec] at hlt
    have hk : j / P.cellsOf e < xs.length := Nat.div_lt_of_lt_mul (by rw [Nat.mul_comm]; exact hlt)
    have hf : j % P.cellsOf e < P.cellsOf e := Nat.mod_lt _ hp
    have hj2 : j / P.cellsOf e * P.cellsOf e + j % P.cellsOf e = j := by rw [Nat.mul_comm]; exact Nat.div_add_mod _ _
    obtain ⟨_, g1, g2⟩ := h7 _ hk
    refine ⟨g1, ?_⟩
    have := g2 (j % P.cellsOf e) v (by rw [← lget_flat hec hk _ hf, hj2]; exact hj)
    rw [Nat.add_assoc, hj2] at this
    exact this
  · obtain ⟨i, hi, rfl⟩ := List.getElem_of_mem hx
    exact (h7 i hi).1
/-- The arguments, one after the other. -/
theorem args_cons {t : TypeId} {ts : List TypeId} {vs : List Value} {ds : List (DataW H)} {ps : List MemPlace} (h : DataW.TrodAll enc P W 0 (fun _ => true) true (t :: ts) vs ds ps) :
    ∃ v r d ds' ps', vs = v :: r ∧ ds = d :: ds' ∧ Reads enc P W t v.cells.toList ∧ DataW.TrodAll enc P W 0 (fun _ => true) true ts r ds' ps' := by
  cases vs with
  | nil => exact h.elim
  | cons v r =>
    cases ds with
    | nil => exact h.elim
    | cons d ds' =>
      obtain ⟨p, q, ⟨fuel, h1⟩, h2, _⟩ := h
      exact ⟨v, r, d, ds', q, rfl, rfl, ⟨fuel, _, h1⟩, h2⟩
theorem args_nil {vs : List Value} {ds : List (DataW H)} {ps : List MemPlace} (h : DataW.TrodAll enc P W 0 (fun _ => true) true [] vs ds ps) : vs = [] := by
  cases vs with
  | nil => rfl
  | cons v r => exact h.elim
end
end Go.Nm
