/-
  The engine, part 7: regions, what their conditions are worth.
-/
import Derived.Test.YtomdcdfcdeaabaaGreatE6
namespace Go.Nm
open Go

/-- A frame at rest: between regions. -/
structure Rel (fr : Fr) (a : Act) : Prop where
  size : a.tmps.size = fr.length
  pv : ∀ t v, lget fr t = some (.p v) → a.tmps[t]? = some v
  ng : ∀ t j w v, lget fr t ≠ some (.g j w v)

section
variable {X : Ctx} {ops : Array Oper} {fr : Fr} {kn : Kn} {gs : List Nat} {a : Act}

theorem okDst_spec : ∀ {gs : List Nat} {t : Tmp}, okDst ops gs (some t) = true → ∀ j ∈ gs, dstOf ops j ≠ some t
  | [], _, _, _, hj => by cases hj
  | j :: r, t, h, k, hk => by
    simp only [okDst, Bool.and_eq_true] at h
    rcases List.mem_cons.1 hk with rfl | hk
    · intro hd
      rw [hd] at h
      simp at h
    · exact okDst_spec h.2 k hk

theorem put_tmps (a : Act) (t : Tmp) (u : Value) : (a.put (some t) u).tmps = a.tmps.setIfInBounds t u := rfl

theorem yielded_put {d : Option Tmp} (u : Value) (h : okDst ops gs d = true) {j : Nat} (hj : j ∈ gs) : yielded ops (a.put d u).tmps j = yielded ops a.tmps j := by
  cases d with
  | none => rfl
  | some t =>
    have hne := okDst_spec h j hj
    cases hd : dstOf ops j with
    | none => rw [yielded_none hd, yielded_none hd]
    | some s =>
      have : s ≠ t := fun e => hne (by rw [hd, e])
      rw [yielded_of hd, yielded_of hd, put_tmps]
      rw [Array.getElem?_setIfInBounds, if_neg (fun e => this e.symm)]

theorem okDst_mono {d : Option Tmp} {g : Option (Nat × Bool)} (h : okDst ops (gcons g gs) d = true) : okDst ops gs d = true := by
  cases g with
  | none => exact h
  | some x =>
    obtain ⟨j, w⟩ := x
    cases d with
    | none => cases gs <;> rfl
    | some t => simp only [gcons, okDst, Bool.and_eq_true] at h; exact h.2

theorem lget_lset {α : Type} (l : List α) (n m : Nat) (x : α) : lget (lset l n x) m = if n = m ∧ n < l.length then some x else lget l m := by
  rw [lget_eq, lset_eq, lget_eq, List.getElem?_set]
  by_cases h : n = m
  · subst h
    by_cases h2 : n < l.length
    · simp [h2]
    · simp [h2]
  · simp [h]

theorem lset_length {α : Type} (l : List α) (n : Nat) (x : α) : (lset l n x).length = l.length := by rw [lset_eq]; simp

/-- The frame behind an operation. -/
theorem rel_put {d : Option Tmp} {u : Value} {s : SV} {gs' : List Nat} (R : RelG ops fr kn gs a) (hok : okDst ops gs' d = true) (hsub : ∀ j ∈ gs, j ∈ gs')
    (hs : s = .p u ∨ ∃ j w v, s = .g j w v ∧ j ∈ gs' ∧ (yielded ops a.tmps j = some w → u = v) ∧ (yielded ops a.tmps j ≠ some w → u = undef)) : RelG ops (fr.put d s) kn gs' (a.put d u) := by
  cases d with
  | none =>
    exact ⟨R.size, R.pv, fun t j w v h => by obtain ⟨h1, h2⟩ := R.gv t j w v h; exact ⟨hsub _ h1, h2⟩, fun x hx => by obtain ⟨h1, h2⟩ := R.kn x hx; exact ⟨hsub _ h1, h2⟩⟩
  | some t =>
    have hsz : (a.put (some t) u).tmps.size = (fr.put (some t) s).length := by
      rw [put_tmps]; simp only [Fr.put]; rw [lset_length, Array.size_setIfInBounds]; exact R.size
    have hget : ∀ m, (a.put (some t) u).tmps[m]? = if t = m ∧ t < fr.length then some u else a.tmps[m]? := by
      intro m
      rw [put_tmps, Array.getElem?_setIfInBounds, ← R.size]
      by_cases h : t = m
      · subst h
        by_cases h2 : t < a.tmps.size
        · simp [h2]
        · simp [h2]
      · simp [h]
    refine ⟨hsz, fun m v h => ?_, fun m j w v h => ?_, fun x hx => ?_⟩
    · simp only [Fr.put] at h
      rw [lget_lset] at h
      rw [hget]
      split at h
      · rename_i hc
        rw [if_pos hc]
        cases h
        rcases hs with hs | ⟨j, w, v', hs, _⟩
        · cases hs; rfl
        · cases hs
      · rename_i hc
        rw [if_neg hc]
        exact R.pv _ _ h
    · simp only [Fr.put] at h
      rw [lget_lset] at h
      rw [hget]
      split at h
      · rename_i hc
        rw [if_pos hc]
        cases h
        rcases hs with hs | ⟨j', w', v', hs, hj, h1, h2⟩
        · cases hs
        · cases hs
          refine ⟨hj, fun hy => ?_, fun hy => ?_⟩
          · rw [yielded_put u hok hj] at hy; rw [h1 hy]
          · rw [yielded_put u hok hj] at hy; rw [h2 hy]
      · rename_i hc
        rw [if_neg hc]
        obtain ⟨h1, h2⟩ := R.gv _ _ _ _ h
        rw [yielded_put u hok (hsub _ h1)]
        exact ⟨hsub _ h1, h2⟩
    · obtain ⟨h1, h2⟩ := R.kn x hx
      rw [yielded_put u hok (hsub _ h1)]
      exact ⟨hsub _ h1, h2⟩

/-- One fact more is known. -/
theorem rel_know {j : Nat} {w b : Bool} (R : RelG ops fr kn gs a) (hj : j ∈ gs) (h : yielded ops a.tmps j = some w ↔ b = true) : RelG ops fr ((j, w, b) :: kn) gs a :=
  ⟨R.size, R.pv, R.gv, fun x hx => by
    rcases List.mem_cons.1 hx with rfl | hx
    · exact ⟨hj, h⟩
    · exact R.kn x hx⟩

theorem eval_func (a : Act) (f : FuncId) : a.eval (.func f) = .func (.func f) #[] #[] := rfl

theorem if_false_or {c : Prop} [Decidable c] {q : Prop} (h : if c then False else q) : ¬ c ∧ q := by
  split at h
  · exact h.elim
  · rename_i hc; exact ⟨hc, h⟩

/-- **An operation that reads at most.** -/
theorem vcPR_sound {o : Oper} {H : Heap} {k : Fr → List Nat → Option (Heap → Prop) → Prop} (hX : ∀ f, memN f X.calls = true → Bodied X.P f) (R : RelG ops fr kn gs a)
    (h : vcPR X ops o kn gs fr H k) : ∃ v f fr' gs', k fr' gs' f ∧ YieldH X.P ops o v f a ∧ factH f H ∧ RelG ops fr' kn gs' (a.put o.dst v) := by
  unfold vcPR at h
  obtain ⟨hok, h⟩ := if_false_or h
  have hok' : okDst ops (gcons o.guard gs) o.dst = true := by simpa using hok
  have hok1 := okDst_mono hok'
  have hw := wantG_iff (ops := ops) (a := a) o
  have hgc := gcond_spec R 9 o.guard
  cases hg : gcond ops fr kn 9 o.guard with
  | bad => simp [hg] at h
  | no =>
    simp only [hg] at h hgc
    refine ⟨undef, none, _, _, h, ⟨fun hwn => absurd (hw.1 hwn) hgc, fun _ => rfl⟩, trivial, rel_put R hok1 (fun _ hj => hj) (.inl rfl)⟩
  | yes =>
    simp only [hg] at h hgc
    have hwn : Region.wanted o (yielded ops a.tmps) = true := hw.2 hgc
    have hev : ∀ x v, evG ops fr kn o.guard x = some v → True → a.eval x = v := fun x v hx _ => evG_spec R x v hx hgc
    cases hk : kindOf X o.op with
    | P =>
      simp only [hk] at h
      obtain ⟨v, h1, h2⟩ := pure_sound (P := X.P) (G := True) (c := none) o (fun p hp _ => hp) hev (fun b c d r hr _ => pkG_spec R b c d r hr hgc) rfl h
      exact ⟨v, none, _, _, h1, ⟨fun _ w _ => good_value (h2 trivial w), fun hn => by rw [hwn] at hn; cases hn⟩, trivial, rel_put R hok1 (fun _ hj => hj) (.inl rfl)⟩
    | R =>
      simp only [hk] at h
      obtain ⟨v, f, h1, h0, h2, h3⟩ := read_sound (G := True) (c := none) o (fun p hp _ => hp) hev hX (eval_func a) h
      exact ⟨v, some f, _, _, h1, ⟨fun _ w hf => h3 trivial w hf, fun hn => by rw [hwn] at hn; cases hn⟩, h2 trivial, rel_put R hok1 (fun _ hj => hj) (.inl rfl)⟩
    | W => simp [hk] at h
  | iff c =>
    simp only [hg] at h hgc
    cases hgd : o.guard with
    | none => simp [hgd] at h
    | some x =>
      obtain ⟨j, w⟩ := x
      rw [hgd] at h hgc hw hok'
      simp only at h
      have hev : ∀ x v, evG ops fr kn (some (j, w)) x = some v → wantG ops (some (j, w)) a → a.eval x = v := fun x v hx hgv => evG_spec R x v hx hgv
      have hgt : ∀ p, gt (some c) p → wantG ops (some (j, w)) a → p := fun p hp hgv => hp (hgc.1 hgv)
      cases hk : kindOf X o.op with
      | P =>
        simp only [hk] at h
        obtain ⟨v, h1, h2⟩ := pure_sound (P := X.P) (G := wantG ops (some (j, w)) a) (c := some c) o hgt hev (fun b c d r hr hgv => pkG_spec R b c d r hr hgv) rfl h
        by_cases hwn : Region.wanted o (yielded ops a.tmps) = true
        · refine ⟨v, none, _, _, h1, ⟨fun _ w' _ => good_value (h2 (hw.1 hwn) w'), fun hn => by rw [hwn] at hn; cases hn⟩, trivial, rel_put R hok' (fun _ hj => List.mem_cons_of_mem _ hj) (.inr ⟨j, w, v, rfl, List.mem_cons_self, fun _ => rfl, fun hy => absurd (hw.1 hwn) hy⟩)⟩
        · refine ⟨undef, none, _, _, h1, ⟨fun hn => absurd hn hwn, fun _ => rfl⟩, trivial, rel_put R hok' (fun _ hj => List.mem_cons_of_mem _ hj) (.inr ⟨j, w, v, rfl, List.mem_cons_self, fun hy => absurd (hw.2 hy) hwn, fun _ => rfl⟩)⟩
      | R =>
        simp only [hk] at h
        obtain ⟨v, f, h1, h0, h2, h3⟩ := read_sound (G := wantG ops (some (j, w)) a) (c := some c) o hgt hev hX (eval_func a) h
        by_cases hwn : Region.wanted o (yielded ops a.tmps) = true
        · refine ⟨v, some f, _, _, h1, ⟨fun _ w' hf => h3 (hw.1 hwn) w' hf, fun hn => by rw [hwn] at hn; cases hn⟩, h2 (hw.1 hwn), rel_put R hok' (fun _ hj => List.mem_cons_of_mem _ hj) (.inr ⟨j, w, v, rfl, List.mem_cons_self, fun _ => rfl, fun hy => absurd (hw.1 hwn) hy⟩)⟩
        · refine ⟨undef, some f, _, _, h1, ⟨fun hn => absurd hn hwn, fun _ => rfl⟩, h0 c rfl (fun hc => hwn (hw.2 (hgc.2 hc))) H, rel_put R hok' (fun _ hj => List.mem_cons_of_mem _ hj) (.inr ⟨j, w, v, rfl, List.mem_cons_self, fun hy => absurd (hw.2 hy) hwn, fun _ => rfl⟩)⟩
      | W => simp [hk] at h

/-- **An operation that may write.** -/
theorem vcW_sound {o : Oper} {H : Heap} {k : Fr → Kn → List Nat → Heap → Prop} (hX : ∀ f, memN f X.calls = true → Bodied X.P f) (R : RelG ops fr kn gs a)
    (h : vcW X ops o kn gs fr H k) : ∀ w, w.heap = H → if Region.wanted o (yielded ops a.tmps) then Good X.P w (fun v H' => ∃ fr' kn' gs', k fr' kn' gs' H' ∧ RelG ops fr' kn' gs' (a.put o.dst v)) ((execOp a.eval o).run X.P w)
      else ∃ fr' kn' gs', k fr' kn' gs' H ∧ RelG ops fr' kn' gs' (a.put o.dst undef) := by
  intro w hwH
  unfold vcW at h
  obtain ⟨hok, h⟩ := if_false_or h
  have hok' : okDst ops (gcons o.guard gs) o.dst = true := by simpa using hok
  have hok1 := okDst_mono hok'
  have hw := wantG_iff (ops := ops) (a := a) o
  have hgc := gcond_spec R 9 o.guard
  cases hg : gcond ops fr kn 9 o.guard with
  | bad => simp [hg] at h
  | no =>
    simp only [hg] at h hgc
    rw [if_neg (fun hwn => hgc (hw.1 hwn))]
    exact ⟨_, _, _, h, rel_put R hok1 (fun _ hj => hj) (.inl rfl)⟩
  | yes =>
    simp only [hg] at h hgc
    rw [if_pos (hw.2 hgc)]
    refine (write_sound (X := X) o (fun x v hx => evG_spec R x v hx hgc) hX (eval_func a) h w hwH).mono fun v H' hk => ?_
    exact ⟨_, _, _, hk, rel_put R hok1 (fun _ hj => hj) (.inl rfl)⟩
  | iff c =>
    simp only [hg] at h hgc
    cases hgd : o.guard with
    | none => simp [hgd] at h
    | some x =>
      obtain ⟨j, w'⟩ := x
      rw [hgd] at h hgc hw hok'
      simp only at h
      by_cases hwn : Region.wanted o (yielded ops a.tmps) = true
      · rw [if_pos hwn]
        have hy := hw.1 hwn
        refine (write_sound (X := X) o (fun x v hx => evG_spec R x v hx hy) hX (eval_func a) (h.1 (hgc.1 hy)) w hwH).mono fun v H' hk => ?_
        refine ⟨_, _, _, hk, rel_know (rel_put R hok' (fun _ hj => List.mem_cons_of_mem _ hj) (.inl rfl)) List.mem_cons_self ?_⟩
        rw [yielded_put v hok' List.mem_cons_self]
        exact ⟨fun _ => rfl, fun _ => hy⟩
      · rw [if_neg hwn]
        have hn : ¬ c := fun hc => hwn (hw.2 (hgc.2 hc))
        refine ⟨_, _, _, h.2 hn, rel_know (rel_put R hok' (fun _ hj => List.mem_cons_of_mem _ hj) (.inl rfl)) List.mem_cons_self ?_⟩
        rw [yielded_put undef hok' List.mem_cons_self]
        exact ⟨fun hy => absurd (hw.2 hy) hwn, fun hb => by cases hb⟩

theorem lget_map {α β : Type} (f : α → β) (l : List α) (n : Nat) : lget (l.map f) n = (lget l n).map f := by
  rw [lget_eq, lget_eq]; simp

theorem rel_end (R : RelG ops fr kn gs a) : Rel (endReg fr) a := by
  refine ⟨by rw [R.size]; simp [endReg], fun t v h => ?_, fun t j w v h => ?_⟩
  · unfold endReg at h
    rw [lget_map] at h
    cases hl : lget fr t with
    | none => simp [hl] at h
    | some s =>
      cases s <;> simp [hl] at h
      subst h
      exact R.pv _ _ hl
  · unfold endReg at h
    rw [lget_map] at h
    cases hl : lget fr t with
    | none => simp [hl] at h
    | some s => cases s <;> simp [hl] at h

theorem rel_start (R : Rel fr a) : RelG ops fr [] [] a :=
  ⟨R.size, R.pv, fun t j w v h => absurd h (R.ng t j w v), fun x hx => by cases hx⟩

/-- **In the text's order.** -/
theorem seq_sound {K : Fr → Heap → Prop} {Q : Exit → Act → World → Prop} {w0 : World} {ro : Option Nat} (hX : ∀ f, memN f X.calls = true → Bodied X.P f) {Inv : Act → Prop} (hInv : ∀ a o v, o ∈ ops.toList → Inv a → Inv (a.put o.dst v))
    (hQ : ∀ fr a w, Rest w0 w → Rel fr a → K fr w.heap → Inv a → Q .normal a w) : ∀ (l : List Oper) (kn : Kn) (gs : List Nat) (fr : Fr) (a : Act) (w : World), (∀ o ∈ l, o ∈ ops.toList) → Inv a →
    RelG ops fr kn gs a → Rest w0 w → vcSeq X ops K l kn gs fr w.heap → wpListIn (FR ro) 0 X.P ops Q l a w
  | [], kn, gs, fr, a, w, hl, ha, R, hr, h => hQ _ _ _ hr (rel_end R) h ha
  | o :: r, kn, gs, fr, a, w, hl, ha, R, hr, h => by
    have hl' : ∀ o ∈ r, o ∈ ops.toList := fun o ho => hl o (List.mem_cons_of_mem _ ho)
    have ha' : ∀ v, Inv (a.put o.dst v) := fun v => hInv a o v (hl o List.mem_cons_self) ha
    have pr : ∀ hk : vcPR X ops o kn gs fr w.heap fun fr' gs' _ => vcSeq X ops K r kn gs' fr' w.heap, wpListIn (FR ro) 0 X.P ops Q (o :: r) a w := by
      intro hk
      obtain ⟨v, f, fr', gs', h1, h2, h3, h4⟩ := vcPR_sound hX R hk
      unfold wpListIn
      split
      · rename_i hwn
        refine wp_of_good hr (K := fun v' H' => v' = v ∧ H' = w.heap) (fun u w' hr' hu => ?_) (h2.1 hwn w h3)
        obtain ⟨rfl, hh⟩ := hu
        exact seq_sound hX hInv hQ r kn gs' fr' _ w' hl' (ha' _) h4 hr' (by rw [hh]; exact h1)
      · rename_i hwn
        rw [← h2.2 (by simpa using hwn)]
        exact ⟨fun f _ => trivial, seq_sound hX hInv hQ r kn gs' fr' _ w hl' (ha' _) h4 hr h1⟩
    simp only [vcSeq] at h
    cases hk : kindOf X o.op with
    | P => simp only [hk] at h; exact pr h
    | R => simp only [hk] at h; exact pr h
    | W =>
      simp only [hk] at h
      have h1 := vcW_sound hX R h w rfl
      unfold wpListIn
      split
      · rename_i hwn
        rw [if_pos hwn] at h1
        refine wp_of_good hr (fun u w' hr' hu => ?_) h1
        obtain ⟨fr', kn', gs', h2, h3⟩ := hu
        exact seq_sound hX hInv hQ r kn' gs' fr' _ w' hl' (ha' _) h3 hr' h2
      · rename_i hwn
        rw [if_neg hwn] at h1
        obtain ⟨fr', kn', gs', h2, h3⟩ := h1
        exact ⟨fun f _ => trivial, seq_sound hX hInv hQ r kn' gs' fr' _ w hl' (ha' _) h3 hr h2⟩

/-! ### in whatever order -/
theorem maskOf_spec (acc : List Nat) : ∀ (es : List Edge) (s i : Nat), (maskOf acc es s).testBit i = true → s.testBit i = true ∨ ∃ e ∈ es, Region.binds .any e = true ∧ (e.on = i ∨ ∃ m, lget acc e.on = some m ∧ m.testBit i = true)
  | [], s, i, h => .inl h
  | e :: r, s, i, h => by
    simp only [maskOf] at h
    rcases maskOf_spec acc r _ i h with h1 | ⟨e', he', h2⟩
    · split at h1
      · rename_i hb
        rw [Nat.testBit_or, Nat.testBit_or, Bool.or_eq_true, Bool.or_eq_true] at h1
        rcases h1 with (h1 | h1) | h1
        · exact .inl h1
        · refine .inr ⟨e, List.mem_cons_self, hb, .inl ?_⟩
          rw [Nat.testBit_two_pow] at h1
          simpa using h1
        · cases hl : lget acc e.on with
          | none => simp [hl] at h1
          | some m => simp only [hl] at h1; exact .inr ⟨e, List.mem_cons_self, hb, .inr ⟨m, hl, h1⟩⟩
      · exact .inl h1
    · exact .inr ⟨e', List.mem_cons_of_mem _ he', h2⟩

theorem bfGo_spec : ∀ (r : List Oper) (acc : List Nat) (j : Nat), acc.length ≤ j → ∀ o, r[j - acc.length]? = some o →
    ∃ acc', acc'.length = j ∧ lget (bfGo r acc) j = some (maskOf acc' o.after.toList 0) ∧ ∀ k, k < j → lget acc' k = lget (bfGo r acc) k
  | [], acc, j, _, o, h => by simp at h
  | o' :: r, acc, j, hj, o, h => by
    have pre : ∀ (r : List Oper) (acc : List Nat) (k : Nat), k < acc.length → lget (bfGo r acc) k = lget acc k := by
      intro r
      induction r with
      | nil => intro acc k _; rfl
      | cons x r ih =>
        intro acc k hk
        simp only [bfGo]
        rw [ih _ k (by simp; omega), lget_eq, lget_eq, List.getElem?_append_left hk]
    by_cases h0 : j = acc.length
    · subst h0
      simp at h
      subst h
      refine ⟨acc, rfl, ?_, fun k hk => ?_⟩
      · simp only [bfGo]
        rw [pre r _ acc.length (by simp), lget_eq, List.getElem?_append_right (Nat.le_refl _)]
        simp
      · simp only [bfGo]
        rw [pre r _ k (by simp; omega), lget_eq, lget_eq, List.getElem?_append_left hk]
    · simp only [bfGo]
      refine bfGo_spec r (acc ++ [maskOf acc o'.after.toList 0]) j (by simp; omega) o ?_
      rw [← h]
      have : j - acc.length = (j - (acc ++ [maskOf acc o'.after.toList 0]).length) + 1 := by simp; omega
      rw [this, List.getElem?_cons_succ]

theorem bf_ok (ops : Array Oper) : BfOk ops (bfB (bfGo ops.toList [])) := by
  intro j oj hj i hi
  have hj' : ops.toList[j]? = some oj := by simpa using hj
  obtain ⟨acc', hl, h1, h2⟩ := bfGo_spec ops.toList [] j (by simp) oj (by simpa using hj')
  unfold bfB at hi
  rw [h1] at hi
  rcases maskOf_spec acc' _ 0 i hi with h3 | ⟨e, he, hb, h3⟩
  · simp at h3
  · refine ⟨e, by simpa using he, hb, h3.imp id ?_⟩
    rintro ⟨m, hm, hbit⟩
    have hlt : e.on < j := by
      rw [lget_eq] at hm
      have := (List.getElem?_eq_some_iff.1 hm).1
      omega
    refine ⟨hlt, ?_, ?_⟩
    · unfold bfB
      rw [← h2 _ hlt, hm]; exact hbit
    · have hjs := (Array.getElem?_eq_some_iff.1 hj).1
      simp [show e.on < ops.size by omega]

theorem strike_eq (B : List Nat) (i : Nat) : ∀ pd : Pend, strike B i pd = pd.filter (fun x => !bfB B i x.1)
  | [] => rfl
  | x :: r => by
    simp only [strike, List.filter_cons]
    cases h : bfB B i x.1 <;> simp [strike_eq B i r]

theorem pendThen_spec : ∀ (pd : Pend) (H : Heap) (q : Prop), pendThen pd H q → (∀ x ∈ pd, factH x.2 H) ∧ q
  | [], _, _, h => ⟨fun x hx => (by cases hx), h⟩
  | (i, none) :: r, H, q, h => by
    obtain ⟨h1, h2⟩ := pendThen_spec r H q h
    exact ⟨fun x hx => by rcases List.mem_cons.1 hx with rfl | hx; exact trivial; exact h1 x hx, h2⟩
  | (i, some f) :: r, H, q, h => by
    obtain ⟨h1, h2⟩ := pendThen_spec r H q h.2
    exact ⟨fun x hx => by rcases List.mem_cons.1 hx with rfl | hx; exact h.1; exact h1 x hx, h2⟩

theorem allL_spec {f : Nat → Prop} : ∀ {l : List Nat}, allL l f → l ≠ [] ∧ ∀ i ∈ l, f i
  | [], h => h.elim
  | [i], h => ⟨by simp, fun j hj => by simp at hj; subst hj; exact h⟩
  | i :: j :: r, h => by
    have h' : f i ∧ allL (j :: r) f := h
    obtain ⟨_, h2⟩ := allL_spec h'.2
    exact ⟨by simp, fun k hk => by rcases List.mem_cons.1 hk with rfl | hk; exact h'.1; exact h2 k hk⟩

def isWB (X : Ctx) (ops : Array Oper) (i : Nat) : Bool := match lget ops.toList i with | some o => (match kindOf X o.op with | .W => true | _ => false) | none => false

theorem firstPR_some : ∀ {l : List Nat} {i : Nat}, firstPR X ops l = some i → i ∈ l ∧ isWB X ops i = false
  | [], _, h => by cases h
  | j :: r, i, h => by
    simp only [firstPR] at h
    cases hl : lget ops.toList j with
    | none => simp only [hl] at h; obtain ⟨h1, h2⟩ := firstPR_some h; exact ⟨List.mem_cons_of_mem _ h1, h2⟩
    | some o =>
      simp only [hl] at h
      cases hk : kindOf X o.op with
      | W => simp only [hk] at h; obtain ⟨h1, h2⟩ := firstPR_some h; exact ⟨List.mem_cons_of_mem _ h1, h2⟩
      | P => simp only [hk] at h; cases h; exact ⟨List.mem_cons_self, by simp [isWB, hl, hk]⟩
      | R => simp only [hk] at h; cases h; exact ⟨List.mem_cons_self, by simp [isWB, hl, hk]⟩
theorem firstPR_none : ∀ {l : List Nat}, firstPR X ops l = none → ∀ i ∈ l, ∀ o, lget ops.toList i = some o → isWB X ops i = true
  | [], _, i, hi, _, _ => by cases hi
  | j :: r, h, i, hi, o, ho => by
    simp only [firstPR] at h
    cases hl : lget ops.toList j with
    | none =>
      simp only [hl] at h
      rcases List.mem_cons.1 hi with rfl | hi
      · rw [ho] at hl; cases hl
      · exact firstPR_none h i hi o ho
    | some o' =>
      simp only [hl] at h
      cases hk : kindOf X o'.op with
      | W =>
        simp only [hk] at h
        rcases List.mem_cons.1 hi with rfl | hi
        · simp [isWB, hl, hk]
        · exact firstPR_none h i hi o ho
      | P => simp [hk] at h
      | R => simp [hk] at h

theorem draw_sound {K : Fr → Heap → Prop} {w0 : World} (hX : ∀ f, memN f X.calls = true → Bodied X.P f) (hs : Region.noSelect ops = true) {Inv : Act → Prop} (hInv : ∀ a o v, o ∈ ops.toList → Inv a → Inv (a.put o.dst v)) :
    ∀ (n : Nat) (listed : Array Bool) (pd : Pend) (kn : Kn) (gs : List Nat) (fr : Fr) (H : Heap) (a : Act), Closed ops listed → (∀ x ∈ pd, factH x.2 H) → RelG ops fr kn gs a → Inv a →
    vcDraw X ops (bfGo ops.toList []) K n listed pd kn gs fr H →
    wpAnyH X.P w0 ops (isWB X ops) (bfB (bfGo ops.toList [])) (fun a' H' => (∃ fr', Rel fr' a' ∧ K fr' H') ∧ Inv a') n pd listed a H
  | 0, listed, pd, kn, gs, fr, H, a, hc, hp, R, ha, h => by
    simp only [vcDraw] at h
    split at h
    · rename_i he
      exact ⟨hp, he, ⟨_, rel_end R, h⟩, ha⟩
    · exact h.elim
  | n + 1, listed, pd, kn, gs, fr, H, a, hc, hp, R, ha, h => by
    simp only [vcDraw] at h
    cases hf : firstPR X ops (Region.ready .any ops listed) with
    | some i =>
      simp only [hf] at h
      obtain ⟨hi, hiw⟩ := firstPR_some hf
      cases hl : lget ops.toList i with
      | none => simp [hl] at h
      | some o =>
        simp only [hl] at h
        obtain ⟨hfree, h⟩ := if_false_or h
        obtain ⟨v, f, fr', gs', h1, h2, h3, h4⟩ := vcPR_sound hX R h
        have hio : ops[i]? = some o := by rw [lget_eq] at hl; simpa using hl
        have ha' : ∀ v, Inv (a.put o.dst v) := fun v => hInv a o v (by rw [lget_eq] at hl; exact List.mem_of_getElem? hl) ha
        refine first_R (bf_ok ops) hs hio hiw n pd listed a H hc (Region.free_spec hio (by simpa using hfree)) hi h2 ?_
        exact draw_sound hX hs hInv n _ _ kn gs' fr' H _ (hc.set hi) (fun x hx => by rcases List.mem_cons.1 hx with rfl | hx; exact h3; exact hp x hx) h4 (ha' _) h1
    | none =>
      simp only [hf] at h
      obtain ⟨hne, hall⟩ := allL_spec h
      refine ⟨hp, fun h0 => absurd h0 hne, fun i hi w hwH hr => ?_⟩
      have hi' := hall i hi
      cases hl : lget ops.toList i with
      | none => simp [hl] at hi'
      | some o =>
        simp only [hl] at hi'
        have hio : ops[i]? = some o := by rw [lget_eq] at hl; simpa using hl
        have ha' : ∀ v, Inv (a.put o.dst v) := fun v => hInv a o v (by rw [lget_eq] at hl; exact List.mem_of_getElem? hl) ha
        have hiw := firstPR_none hf i hi o hl
        have hsh : shrink (isWB X ops) (bfB (bfGo ops.toList [])) i pd = strike (bfGo ops.toList []) i pd := by unfold shrink; rw [if_pos hiw, strike_eq]
        have h1 := vcW_sound hX R hi' w hwH
        simp only [hio]
        split
        · rename_i hwn
          rw [if_pos hwn] at h1
          refine h1.mono fun v H' hk => ?_
          obtain ⟨fr', kn', gs', h2, h3⟩ := hk
          obtain ⟨h4, h5⟩ := pendThen_spec _ _ _ h2
          rw [hsh]
          exact draw_sound hX hs hInv n _ _ kn' gs' fr' H' _ (hc.set hi) h4 h3 (ha' _) h5
        · rename_i hwn
          rw [if_neg hwn] at h1
          obtain ⟨fr', kn', gs', h2, h3⟩ := h1
          obtain ⟨h4, h5⟩ := pendThen_spec _ _ _ h2
          rw [hsh]
          exact draw_sound hX hs hInv n _ _ kn' gs' fr' H _ (hc.set hi) h4 h3 (ha' _) h5

end
end Go.Nm
