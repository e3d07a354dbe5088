/-
  A reel's records in the disk's rows, plainly. ReelCrash, ReelDrops.
-/
import Derived.Test.YtomdcdfcdeaabaaGreatRT
set_option linter.unusedVariables false
set_option linter.unusedSimpArgs false
namespace Go.Nm
open Go
/-- Records with their segments, in order. -/
abbrev LG := List (Int × Rc)
def rowsL (L : LG) : DR := L.flatMap fun x => (recB x.2).map fun b => (x.1, b)
theorem rowsL_append (A B : LG) : rowsL (A ++ B) = rowsL A ++ rowsL B := List.flatMap_append
theorem rowsL_one (x : Int × Rc) : rowsL [x] = (recB x.2).map fun b => (x.1, b) := by simp [rowsL]
theorem rowsL_cons (x : Int × Rc) (L : LG) : rowsL (x :: L) = ((recB x.2).map fun b => (x.1, b)) ++ rowsL L := rfl
theorem bytesOf_rowsL (f : Int) : ∀ L : LG, bytesOf f (rowsL L) = ((L.filter fun x => decide (x.1 = f)).map Prod.snd).flatMap recB
  | [] => rfl
  | x :: L => by
    rw [rowsL_cons, bytesOf_append, bytesOf_rowsL f L, List.filter_cons]
    by_cases e : x.1 = f
    · rw [e, bytesOf_same, if_pos (decide_eq_true rfl)]; rfl
    · rw [bytesOf_other (fun h => e h.symm), if_neg (by simpa using e), List.nil_append]
structure LG.ok (L : LG) : Prop where
  recs : ∀ x ∈ L, x.2.ok
  up : L.Pairwise fun x y => x.1 ≤ y.1
theorem sorted_split {f : Int} : ∀ {L : LG}, (L.Pairwise fun x y => x.1 ≤ y.1) → (∀ x ∈ L, f ≤ x.1) → L = L.filter (fun x => decide (x.1 = f)) ++ L.filter fun x => decide (x.1 ≠ f)
  | [], _, _ => rfl
  | x :: L, h, hf => by
    rw [List.pairwise_cons] at h
    by_cases e : x.1 = f
    · have ih := sorted_split h.2 fun y hy => hf y (List.mem_cons_of_mem _ hy)
      rw [List.filter_cons, if_pos (decide_eq_true e), List.filter_cons, if_neg (by simpa using e), List.cons_append, ← ih]
    · have hlt : f < x.1 := by have := hf x List.mem_cons_self; omega
      have h1 : ∀ y ∈ x :: L, ¬ y.1 = f := fun y hy => by
        rcases List.mem_cons.1 hy with rfl | hy
        · exact e
        · have := h.1 y hy; omega
      rw [List.filter_eq_nil_iff.2 fun y hy => by simpa using h1 y hy, List.nil_append, List.filter_eq_self.2 fun y hy => by simpa using h1 y hy]
theorem rising_flat : ∀ {fs : List Int} {L : LG}, fs.Pairwise (· < ·) → (L.Pairwise fun x y => x.1 ≤ y.1) → (∀ x ∈ L, x.1 ∈ fs) → fs.flatMap (fun f => L.filter fun x => decide (x.1 = f)) = L
  | [], [], _, _, _ => rfl
  | [], x :: L, _, _, h => by have := h x List.mem_cons_self; cases this
  | f :: fs, L, hr, hs, h => by
    rw [List.pairwise_cons] at hr
    have hf : ∀ x ∈ L, f ≤ x.1 := fun x hx => by
      rcases List.mem_cons.1 (h x hx) with e | e
      · omega
      · have := hr.1 _ e; omega
    have h2 := sorted_split hs hf
    have ih := rising_flat (fs := fs) (L := L.filter fun x => decide (x.1 ≠ f)) hr.2 (hs.filter _) fun x hx => by
      obtain ⟨h3, h4⟩ := List.mem_filter.1 hx
      have h4 : x.1 ≠ f := of_decide_eq_true h4
      rcases List.mem_cons.1 (h x h3) with e | e
      · exact absurd e h4
      · exact e
    have e : fs.flatMap (fun f' => L.filter fun x => decide (x.1 = f')) = fs.flatMap fun f' => (L.filter fun x => decide (x.1 ≠ f)).filter fun x => decide (x.1 = f') := by
      have : ∀ l : List Int, (∀ y ∈ l, f < y) → l.flatMap (fun f' => L.filter fun x => decide (x.1 = f')) = l.flatMap fun f' => (L.filter fun x => decide (x.1 ≠ f)).filter fun x => decide (x.1 = f') := by
        intro l
        induction l with
        | nil => intro _; rfl
        | cons y l ih =>
          intro hy
          rw [List.flatMap_cons, List.flatMap_cons, ih fun z hz => hy z (List.mem_cons_of_mem _ hz)]
          congr 1
          rw [List.filter_filter]
          refine List.filter_congr fun x hx => ?_
          have := hy y List.mem_cons_self
          by_cases ex : x.1 = y
          · rw [decide_eq_true ex, Bool.true_and]
            exact (decide_eq_true (by omega)).symm
          · rw [decide_eq_false ex, Bool.false_and]
      exact this fs fun y hy => hr.1 y hy
    rw [List.flatMap_cons, e, ih]
    exact h2.symm
theorem rowsL_files {L : LG} (hL : ∀ x ∈ L, x.2.ok) {x : Int × Rc} (hx : x ∈ L) : x.1 ∈ (rowsL L).map Prod.fst := by
  have h6 := recB_len (hL x hx)
  obtain ⟨b, hb⟩ : ∃ b, b ∈ recB x.2 := by
    cases h : recB x.2 with
    | nil => rw [h] at h6; simp at h6
    | cons b r => exact ⟨b, List.mem_cons_self⟩
  exact List.mem_map.2 ⟨(x.1, b), List.mem_flatMap.2 ⟨x, hx, List.mem_map.2 ⟨b, hb, rfl⟩⟩, rfl⟩
theorem allM_log {L : LG} (hL : L.ok) {g : Int} {t : List Int} (ht : isBytes t) (hn : oneM t = none) : allM (rowsL L ++ t.map fun b => (g, b)) = L.map Prod.snd := by
  have hb : ∀ f, (scanM (bytesOf f (rowsL L ++ t.map fun b => (g, b)))).1 = (L.filter fun x => decide (x.1 = f)).map Prod.snd := by
    intro f
    rw [bytesOf_append, bytesOf_rowsL]
    have hok : ∀ r ∈ (L.filter fun x => decide (x.1 = f)).map Prod.snd, r.ok := fun r hr => by
      obtain ⟨x, hx, rfl⟩ := List.mem_map.1 hr
      exact hL.recs x (List.mem_filter.1 hx).1
    by_cases e : f = g
    · subst e
      rw [bytesOf_same, scanM_whole hok ht hn]
    · rw [bytesOf_other e, List.append_nil, scanM_recs hok]
  unfold allM
  have e1 : (fun f => (scanM (bytesOf f (rowsL L ++ t.map fun b => (g, b)))).1) = fun f => (L.filter fun x => decide (x.1 = f)).map Prod.snd := funext hb
  rw [e1]
  have e2 := rising_flat (filesOf_rising (rowsL L ++ t.map fun b => (g, b))) hL.up fun x hx => by
    rw [mem_filesOf, List.map_append]
    exact List.mem_append_left _ (rowsL_files hL.recs hx)
  have e3 := congrArg (List.map Prod.snd) e2
  rw [List.map_flatMap] at e3
  exact e3
theorem allM_log0 {L : LG} (hL : L.ok) : allM (rowsL L) = L.map Prod.snd := by
  have := allM_log hL (g := 0) (t := []) (fun x hx => by cases hx) rfl
  simpa using this
/-- A cut leaves whole records and a part of one. -/
theorem rowsL_cut : ∀ (L : LG) (n : Nat), ∃ p g t, (rowsL L).take n = rowsL (L.take p) ++ (t.map fun b => (g, b)) ∧ p ≤ L.length ∧
    (t = [] ∨ ∃ r : Rc, (∃ x ∈ L, r = x.2) ∧ ∃ k, k < (recB r).length ∧ t = (recB r).take k) ∧ ∀ m, m ≤ L.length → (rowsL (L.take m)).length ≤ n → (∀ x ∈ L, 0 < (recB x.2).length) → m ≤ p
  | [], n => ⟨0, 0, [], by simp [rowsL], Nat.zero_le _, .inl rfl, fun m hm _ _ => hm⟩
  | x :: L, n => by
    rcases Nat.lt_or_ge n (recB x.2).length with h | h
    · refine ⟨0, x.1, (recB x.2).take n, ?_, Nat.zero_le _, .inr ⟨x.2, ⟨x, List.mem_cons_self, rfl⟩, n, h, rfl⟩, fun m hm hl hp => ?_⟩
      · rw [rowsL_cons, List.take_append_of_le_length (by rw [List.length_map]; omega), List.map_take]
        rfl
      · cases m with
        | zero => exact Nat.le_refl _
        | succ m =>
          rw [List.take_succ_cons, rowsL_cons, List.length_append, List.length_map] at hl
          omega
    · obtain ⟨p, g, t, h1, h2, h3, h4⟩ := rowsL_cut L (n - (recB x.2).length)
      refine ⟨p + 1, g, t, ?_, by rw [List.length_cons]; omega, ?_, fun m hm hl hp => ?_⟩
      · rw [rowsL_cons, List.take_append, List.take_of_length_le (by rw [List.length_map]; omega), List.length_map, h1, List.take_succ_cons, rowsL_cons, List.append_assoc]
      · rcases h3 with h3 | ⟨r, ⟨y, hy, hr⟩, h5⟩
        · exact .inl h3
        · exact .inr ⟨r, ⟨y, List.mem_cons_of_mem _ hy, hr⟩, h5⟩
      · cases m with
        | zero => omega
        | succ m =>
          rw [List.take_succ_cons, rowsL_cons, List.length_append, List.length_map] at hl
          have := h4 m (by simp at hm; omega) (by omega) fun y hy => hp y (List.mem_cons_of_mem _ hy)
          omega
/-- A record in a new last segment. -/
theorem allM_new {rows : DR} {g : Int} {r : Rc} (hr : r.ok) (hg : ∀ x ∈ rows, x.1 < g) : allM (rows ++ (recB r).map fun b => (g, b)) = allM rows ++ [r] := by
  have hpos := recB_len hr
  have hfiles : filesOf (rows ++ (recB r).map fun b => (g, b)) = filesOf rows ++ [g] := by
    refine rising_eq (filesOf_rising _) ?_ fun x => ?_
    · rw [List.pairwise_append]
      refine ⟨filesOf_rising rows, List.pairwise_singleton _ _, fun a ha b hb => ?_⟩
      rw [List.mem_singleton] at hb
      subst hb
      obtain ⟨y, hy, rfl⟩ := List.mem_map.1 (mem_filesOf.1 ha)
      exact hg y hy
    · rw [mem_filesOf, List.map_append, List.mem_append, List.mem_append, mem_filesOf, List.mem_singleton]
      refine or_congr Iff.rfl ⟨fun h => ?_, fun h => ?_⟩
      · obtain ⟨y, hy, rfl⟩ := List.mem_map.1 h
        obtain ⟨b, _, rfl⟩ := List.mem_map.1 hy
        rfl
      · subst h
        cases h : recB r with
        | nil => rw [h] at hpos; simp at hpos
        | cons b l => simp
  unfold allM
  rw [hfiles, List.flatMap_append]
  congr 1
  · have : ∀ l : List Int, (∀ f ∈ l, f ≠ g) → l.flatMap (fun f => (scanM (bytesOf f (rows ++ (recB r).map fun b => (g, b)))).1) = l.flatMap fun f => (scanM (bytesOf f rows)).1 := by
      intro l
      induction l with
      | nil => intro _; rfl
      | cons f l ih =>
        intro h
        rw [List.flatMap_cons, List.flatMap_cons, ih fun y hy => h y (List.mem_cons_of_mem _ hy), bytesOf_append, bytesOf_other (h f List.mem_cons_self), List.append_nil]
    refine this _ fun f hf e => ?_
    obtain ⟨y, hy, rfl⟩ := List.mem_map.1 (mem_filesOf.1 hf)
    have := hg y hy
    omega
  · have hn : bytesOf g rows = [] := by
      unfold bytesOf
      rw [List.filter_eq_nil_iff.2 fun y hy => by have := hg y hy; simp; omega]
      rfl
    have h1 := scanM_recs (rs := [r]) fun x hx => by rw [List.mem_singleton] at hx; subst hx; exact hr
    simp only [List.flatMap_cons, List.flatMap_nil, List.append_nil] at h1 ⊢
    rw [bytesOf_append, hn, bytesOf_same, List.nil_append, h1]
theorem dropR_log (below : Int) (L : LG) : dropR below (rowsL L) = rowsL (L.filter fun x => decide (below ≤ x.1)) := by
  unfold dropR
  induction L with
  | nil => rfl
  | cons x L ih =>
    rw [rowsL_cons, List.filter_append, ih, List.filter_cons]
    by_cases e : below ≤ x.1
    · rw [if_pos (decide_eq_true e), rowsL_cons, List.filter_eq_self.2]
      intro y hy
      obtain ⟨b, _, rfl⟩ := List.mem_map.1 hy
      exact decide_eq_true e
    · rw [if_neg (by simpa using e), List.filter_eq_nil_iff.2, List.nil_append]
      intro y hy
      obtain ⟨b, _, rfl⟩ := List.mem_map.1 hy
      simpa using e
theorem sorted_suffix {below : Int} : ∀ {L : LG}, (L.Pairwise fun x y => x.1 ≤ y.1) → L.filter (fun x => decide (below ≤ x.1)) = L.drop (L.length - (L.filter fun x => decide (below ≤ x.1)).length)
  | [], _ => rfl
  | x :: L, h => by
    rw [List.pairwise_cons] at h
    by_cases e : below ≤ x.1
    · have : (x :: L).filter (fun x => decide (below ≤ x.1)) = x :: L := List.filter_eq_self.2 fun y hy => by
        rcases List.mem_cons.1 hy with rfl | hy
        · exact decide_eq_true e
        · have := h.1 y hy
          exact decide_eq_true (by omega)
      rw [this, Nat.sub_self, List.drop_zero]
    · have ih := sorted_suffix (below := below) h.2
      rw [List.filter_cons, if_neg (by simpa using e)]
      have hl : (L.filter fun x => decide (below ≤ x.1)).length ≤ L.length := List.length_filter_le _ _
      rw [List.length_cons, show L.length + 1 - (L.filter fun x => decide (below ≤ x.1)).length = (L.length - (L.filter fun x => decide (below ≤ x.1)).length) + 1 by omega, List.drop_succ_cons]
      exact ih
/-- What holds of the log. -/
structure LogI (rows : DR) (syn : Nat) (s : RL) (L : LG) : Prop where
  rows' : rows = rowsL L
  ok : L.ok
  seg : ∀ x ∈ L, x.1 ≤ s.seg
  next : s.next = L.length
  ssyn : s.syn ≤ L.length
  syn : syn = (rowsL (L.take s.syn)).length
theorem LogI.append {rows : DR} {syn : Nat} {s : RL} {L : LG} (h : LogI rows syn s L) {r : Rc} (hb : isBytes r.data) (he : appE rows s r = 0) :
    LogI (appRows rows s r) syn (appS rows s r) (L ++ [((appS rows s r).seg, r)]) := by
  have hs := appS_seg2 (rows := rows) (s := s) (r := r)
  have hok := appE_ok hb he
  have e1 : appRows rows s r = rows ++ (recB r).map fun b => ((appS rows s r).seg, b) := by unfold appRows; rw [if_neg (by rw [he]; decide)]
  have e2 : (appS rows s r).next = s.next + 1 := by unfold appS; rw [if_neg (by rw [he]; decide)]
  refine ⟨?_, ⟨fun x hx => ?_, ?_⟩, fun x hx => ?_, ?_, ?_, ?_⟩
  · rw [e1, rowsL_append, rowsL_one, h.rows']
  · rcases List.mem_append.1 hx with hx | hx
    · exact h.ok.recs x hx
    · rw [List.mem_singleton] at hx; subst hx; exact hok
  · rw [List.pairwise_append]
    refine ⟨h.ok.up, List.pairwise_singleton _ _, fun a ha b hb => ?_⟩
    rw [List.mem_singleton] at hb
    subst hb
    have := h.seg a ha
    dsimp only
    omega
  · rcases List.mem_append.1 hx with hx | hx
    · have := h.seg x hx; omega
    · rw [List.mem_singleton] at hx; subst hx; exact Int.le_refl _
  · rw [e2, h.next, List.length_append]; rfl
  · rw [hs.2.2.2.1, List.length_append]; have := h.ssyn; omega
  · rw [hs.2.2.2.1, List.take_append_of_le_length h.ssyn]; exact h.syn
theorem LogI.sync {rows : DR} {syn : Nat} {s : RL} {L : LG} (h : LogI rows syn s L) : LogI rows rows.length { s with syn := s.next } L :=
  ⟨h.rows', h.ok, h.seg, h.next, by dsimp only; rw [h.next]; exact Nat.le_refl _, by dsimp only; rw [h.next, List.take_length, ← h.rows']⟩
theorem LogI.turn {rows : DR} {syn : Nat} {s : RL} {L : LG} (h : LogI rows syn s L) : LogI rows syn { s with seg := s.seg + 1 } L :=
  ⟨h.rows', h.ok, fun x hx => by have := h.seg x hx; dsimp only; omega, h.next, h.ssyn, h.syn⟩
theorem LogI.cut {rows : DR} {syn : Nat} {s : RL} {L : LG} (h : LogI rows syn s L) (keep : Int) : ∃ p, s.syn ≤ p ∧ p ≤ L.length ∧ allM (crashR rows syn keep) = (L.take p).map Prod.snd := by
  unfold crashR
  obtain ⟨n, hn⟩ : ∃ n, syn + (min (max keep 0) ((rows.length : Int) - syn)).toNat = n := ⟨_, rfl⟩
  rw [hn]
  have hsn : syn ≤ n := by omega
  obtain ⟨p, g, t, h1, h2, h3, h4⟩ := rowsL_cut L n
  have hpos : ∀ x ∈ L, 0 < (recB x.2).length := fun x hx => by have := recB_len (h.ok.recs x hx); omega
  have hp := h4 s.syn h.ssyn (by rw [← h.syn]; exact hsn) hpos
  have hLp : LG.ok (L.take p) := ⟨fun x hx => h.ok.recs x (List.mem_of_mem_take hx), h.ok.up.take⟩
  refine ⟨p, hp, h2, ?_⟩
  rw [h.rows', h1]
  rcases h3 with rfl | ⟨r, ⟨x, hx, rfl⟩, k, hk, rfl⟩
  · have := allM_log hLp (g := g) (t := []) (fun x hx => by cases hx) rfl
    exact this
  · exact allM_log hLp (isBytes_take _ (recB_bytes (h.ok.recs x hx))) (oneM_part (h.ok.recs x hx) hk)
end Go.Nm
namespace Go.Nm
open Go
theorem rdS.subS {H : Heap} {a : Option Addr} {cs : List Value} {k c sz : Nat} (h : rdS H a cs) (hc : cs.length ≤ c * sz) : rdS H (slB a k c sz) (cs.drop (k * sz)) := by
  intro j v hj
  have hj2 : lget cs (k * sz + j) = Option.some v := by
    rw [lget_eq'] at hj ⊢
    rwa [List.getElem?_drop] at hj
  have hlt := lget_lt hj2
  obtain ⟨h1, h2⟩ := h _ _ hj2
  have hne : c ≠ k := fun e => by subst e; omega
  have e : slB a k c sz = Option.some ⟨adrB a, adrO a + k * sz, none⟩ := by
    unfold slB
    rw [if_neg hne, h1, Option.map_some, Addr_add]
    rfl
  rw [e]
  refine ⟨rfl, ?_⟩
  show cellAt H (adrB a) (adrO a + k * sz + j) = _
  rw [Nat.add_assoc]
  exact h2
theorem rdS.sbS {H : Heap} {a : Option Addr} {cs : List Value} {m sz : Nat} (h : rdS H a cs) : rdS H (slB a 0 m sz) cs := by
  cases cs with
  | nil => exact rdS_nil _ _
  | cons v r => rw [slB0 (h 0 v rfl).1]; exact h
end Go.Nm
namespace Go.Proofs.YtomdcdfcdeaabaaGreat
open Go Go.Nm Go.Proofs
section
variable {H0 : Heap} {ca : Option Addr} {cc : Nat} {most : Int}
theorem openE_in {rows : DR} (h : 64 ≤ most ∧ most ≤ 1048576) (hs : segOf rows ≤ 2147483647) : openE most rows = 0 := by
  unfold openE
  rw [if_neg (by omega), if_neg (by omega)]
theorem recs_short {rows : DR} (ok : RowsOk rows) {rs : List Ry} (h : rs.map Ry.rc = allM rows) : rs.length ≤ rows.length ∧ ∀ r ∈ rs, r.y.bs.length ≤ 1099511627776 := by
  refine ⟨?_, fun r hr => ?_⟩
  · rw [← List.length_map (f := Ry.rc), h]
    exact allM_len ok
  · have hm : r.rc ∈ allM rows := by rw [← h]; exact List.mem_map.2 ⟨r, hr, rfl⟩
    obtain ⟨f, hf, hm⟩ := List.mem_flatMap.1 hm
    have := ((scanM_ok (Nat.le_refl _) (ok.bytes f)).1 _ hm).len
    unfold Ry.rc at this
    dsimp only at this
    omega
def ex7 : Rc := ⟨7, [120]⟩
theorem ex7_ok : ex7.ok := ⟨by decide, by decide, by decide, fun x hx => by
  simp only [ex7, List.mem_singleton] at hx
  omega⟩
theorem app_new {rows : DR} (ok : RowsOk rows) (hg : ∀ x ∈ rows, x.1 < segOf rows) {r : Rc} (hr : r.ok) :
    appE rows (opS most rows) r = 0 ∧ appS rows (opS most rows) r = ⟨most, segOf rows, (allM rows).length + 1, (allM rows).length⟩ ∧ appRows rows (opS most rows) r = rows ++ (recB r).map fun b => (segOf rows, b) := by
  have hn : bytesOf (segOf rows) rows = [] := by
    unfold bytesOf
    rw [List.filter_eq_nil_iff.2 fun y hy => by have := hg y hy; simp; omega]
    rfl
  have ht : turns rows (opS most rows) (recB r).length = false := by
    unfold turns
    dsimp only
    rw [hn]
    rfl
  have he : appE rows (opS most rows) r = 0 := by
    unfold appE
    rw [bytesE_of hr, if_neg (by decide), ht]; rfl
  have hs : appS rows (opS most rows) r = ⟨most, segOf rows, (allM rows).length + 1, (allM rows).length⟩ := by unfold appS; rw [if_neg (by rw [he]; decide), ht]; rfl
  refine ⟨he, hs, ?_⟩
  unfold appRows; rw [if_neg (by rw [he]; decide), hs]
theorem files_lt {rows : DR} : ∀ x ∈ rows, x.1 < segOf rows := by
  intro r hr
  have hf : r.1 ∈ filesOf rows := mem_filesOf.2 (List.mem_map.2 ⟨r, hr, rfl⟩)
  obtain ⟨i, hi, he⟩ := List.getElem_of_mem hf
  obtain ⟨n, hn⟩ : ∃ n, n + 1 = (filesOf rows).length := ⟨(filesOf rows).length - 1, by omega⟩
  obtain ⟨f, h1, h2, h3⟩ := segOf_cons hn
  have hnl : n < (filesOf rows).length := by omega
  rw [List.getElem?_eq_getElem hnl] at h1
  have h1 := Option.some.inj h1
  rw [h2, ← he, ← h1]
  rcases Nat.lt_or_ge i n with h | h
  · have := List.pairwise_iff_getElem.1 (filesOf_rising rows) i n hi hnl h
    omega
  · have : i = n := by omega
    subst this
    omega
theorem ci0 (h : 64 ≤ most ∧ most ≤ 1048576) : LogI [] 0 (opS most []) [] := by
  obtain ⟨_, h2, h3⟩ := ex_all
  unfold opS
  rw [h2, h3]
  exact ⟨rfl, ⟨fun x hx => (by cases hx), List.Pairwise.nil⟩, fun x hx => (by cases hx), rfl, Nat.le_refl _, rfl⟩
theorem append_one {rb db : Nat} {rows : DR} {syn : Nat} {s : RL} {x : RD} {a : Option Addr} {c b : Nat} {H : Heap} {F : List Assn} {K : Value → Heap → Prop} (hs : s.ok) (hB : rows.length ≤ 549755813888) (hxb : isBytes x.bs) (hx : x.bs.length ≤ 200)
    (h : SatL H (cellsA b [.slice a x.bs.length c] 32 :: slA 5 1 a x.bs.length c (x.bs.map U8) :: reelA rb db s :: diskX db rows syn :: F))
    (k : ∀ H', SatL H' (reelA rb db (appS rows s ⟨x.kind, x.bs⟩) :: diskX db (appRows rows s ⟨x.kind, x.bs⟩) syn :: F) → K (.tuple #[.int .i64 (appN rows s ⟨x.kind, x.bs⟩), .int .i64 (appE rows s ⟨x.kind, x.bs⟩)]) H') :
    CallF Tryz.prog 38 #[.pointer (some ⟨rb, 0, none⟩), .int .i64 x.kind, .slice (some ⟨b, 0, none⟩) 1 1] H K := by
  have efl : ([⟨a, c, x.bs⟩] : List Fy).flatMap Fy.bs = x.bs := by simp
  have hk := AppendR_spec (F := cellsA b [.slice a x.bs.length c] 32 :: slA 5 1 a x.bs.length c (x.bs.map U8) :: F) (a := some ⟨b, 0, none⟩) (c := 1) (kind := x.kind) (parts := [⟨a, c, x.bs⟩]) (K := K) hs hB (h.ordt [2, 3, 0, 1] 4 (by decide) (by decide)) (fun H h => h.ce_rd 0 rfl) (fun H h p hp => by
    rw [List.mem_singleton] at hp; subst hp; exact h.sl_rd 1 rfl) (by rw [efl]; exact hxb) (Nat.le_of_ble_eq_true rfl) (by rw [efl]; omega)
  rw [efl] at hk
  exact hk fun H' h => k H' (h.ordt [0, 1] 4 (by decide) (by decide))

theorem append7 {rb db b5 b6 : Nat} {rows : DR} {syn : Nat} {H : Heap} {F : List Assn} {K : Value → Heap → Prop} (ok : RowsOk rows) (hs : (opS most rows).ok) (hB : rows.length ≤ 549755813888)
    (h : SatL H (cellsA b6 [.slice (some ⟨b5, 0, none⟩) 1 1] 32 :: litA b5 [U8 120] 5 :: reelA rb db (opS most rows) :: diskX db rows syn :: F))
    (k : ∀ H', SatL H' (reelA rb db ⟨most, segOf rows, (allM rows).length + 1, (allM rows).length⟩ :: diskX db (rows ++ (recB ex7).map fun b => (segOf rows, b)) syn :: F) → K (.tuple #[.int .i64 (appN rows (opS most rows) ex7), .int .i64 0]) H') :
    CallF Tryz.prog 38 #[.pointer (some ⟨rb, 0, none⟩), .int .i64 7, .slice (some ⟨b6, 0, none⟩) 1 1] H K := by
  have efl : ([⟨some ⟨b5, 0, none⟩, 1, [120]⟩] : List Fy).flatMap Fy.bs = [120] := rfl
  have hk := AppendR_spec (F := cellsA b6 [.slice (some ⟨b5, 0, none⟩) 1 1] 32 :: litA b5 [U8 120] 5 :: F) (a := some ⟨b6, 0, none⟩) (c := 1) (kind := 7) (parts := [⟨some ⟨b5, 0, none⟩, 1, [120]⟩]) (K := K) hs hB (h.ordt [2, 3, 0, 1] 4 (by decide) (by decide)) (fun H h => h.ce_rd 0 rfl) (fun H h y hy => by
    rw [List.mem_singleton] at hy; subst hy; exact h.lit_rd 1 rfl) ex7_ok.by' (Nat.le_of_ble_eq_true rfl) (Nat.le_of_ble_eq_true rfl)
  rw [efl, show (⟨7, [120]⟩ : Rc) = ex7 from rfl] at hk
  obtain ⟨z1, z2, z3⟩ := app_new (most := most) ok files_lt ex7_ok
  rw [z1, z2, z3] at hk
  exact hk fun H' h => k H' (h.ordt [0, 1] 4 (by decide) (by decide))

end
end Go.Proofs.YtomdcdfcdeaabaaGreat
