/-
  A reel's records in the disk's rows, plainly. ReelCrash, ReelDrops.
-/
import Derived.Test.YtomdcdfcdeaabaaRT
set_option linter.unusedVariables false
set_option linter.unusedSimpArgs false
namespace Go.Nm
open Go
/-- Records with their segments, in order. -/
abbrev LG := List (Int × Rc)
def rowsL (L : LG) : DR := L.flatMap fun x => (recB x.2).map fun b => (x.1, b)
theorem rowsL_append (A B : LG) : rowsL (A ++ B) = rowsL A ++ rowsL B := List.flatMap_append
theorem rowsL_one (x : Int × Rc) : rowsL [x] = (recB x.2).map fun b => (x.1, b) := by simp [rowsL]
theorem rowsL_cons (x : Int × Rc) (L : LG) : rowsL (x :: L) = ((recB x.2).map fun b => (x.1, b)) ++ rowsL L := rfl
theorem bytesOf_rowsL (f : Int) : ∀ L : LG, bytesOf f (rowsL L) = ((L.filter fun x => decide (x.1 = f)).map Prod.snd).flatMap recB
  | [] => rfl
  | x :: L => by
    rw [rowsL_cons, bytesOf_append, bytesOf_rowsL f L, List.filter_cons]
    by_cases e : x.1 = f
    · rw [e, bytesOf_same, if_pos (decide_eq_true rfl)]; rfl
    · rw [bytesOf_other (fun h => e h.symm), if_neg (by simpa using e), List.nil_append]
structure LG.ok (L : LG) : Prop where
  recs : ∀ x ∈ L, x.2.ok
  up : L.Pairwise fun x y => x.1 ≤ y.1
theorem sorted_split {f : Int} : ∀ {L : LG}, (L.Pairwise fun x y => x.1 ≤ y.1) → (∀ x ∈ L, f ≤ x.1) → L = L.filter (fun x => decide (x.1 = f)) ++ L.filter fun x => decide (x.1 ≠ f)
  | [], _, _ => rfl
  | x :: L, h, hf => by
    rw [List.pairwise_cons] at h
    by_cases e : x.1 = f
    · have ih := sorted_split h.2 fun y hy => hf y (List.mem_cons_of_mem _ hy)
      rw [List.filter_cons, if_pos (decide_eq_true e), List.filter_cons, if_neg (by simpa using e), List.cons_append, ← ih]
    · have hlt : f < x.1 := by have := hf x List.mem_cons_self; omega
      have h1 : ∀ y ∈ x :: L, ¬ y.1 = f := fun y hy => by
        rcases List.mem_cons.1 hy with rfl | hy
        · exact e
        · have := h.1 y hy; omega
      rw [List.filter_eq_nil_iff.2 fun y hy => by simpa using h1 y hy, List.nil_append, List.filter_eq_self.2 fun y hy => by simpa using h1 y hy]
theorem rising_flat : ∀ {fs : List Int} {L : LG}, fs.Pairwise (· < ·) → (L.Pairwise fun x y => x.1 ≤ y.1) → (∀ x ∈ L, x.1 ∈ fs) → fs.flatMap (fun f => L.filter fun x => decide (x.1 = f)) = L
  | [], [], _, _, _ => rfl
  | [], x :: L, _, _, h => by have := h x List.mem_cons_self; cases this
  | f :: fs, L, hr, hs, h => by
    rw [List.pairwise_cons] at hr
    have hf : ∀ x ∈ L, f ≤ x.1 := fun x hx => by
      rcases List.mem_cons.1 (h x hx) with e | e
      · omega
      · have := hr.1 _ e; omega
    have h2 := sorted_split hs hf
    have ih := rising_flat (fs := fs) (L := L.filter fun x => decide (x.1 ≠ f)) hr.2 (hs.filter _) fun x hx => by
      obtain ⟨h3, h4⟩ := List.mem_filter.1 hx
      have h4 : x.1 ≠ f := of_decide_eq_true h4
      rcases List.mem_cons.1 (h x h3) with e | e
      · exact absurd e h4
      · exact e
    have e : fs.flatMap (fun f' => L.filter fun x => decide (x.1 = f')) = fs.flatMap fun f' => (L.filter fun x => decide (x.1 ≠ f)).filter fun x => decide (x.1 = f') := by
      have : ∀ l : List Int, (∀ y ∈ l, f < y) → l.flatMap (fun f' => L.filter fun x => decide (x.1 = f')) = l.flatMap fun f' => (L.filter fun x => decide (x.1 ≠ f)).filter fun x => decide (x.1 = f') := by
        intro l
        induction l with
        | nil => intro _; rfl
        | cons y l ih =>
          intro hy
          rw [List.flatMap_cons, List.flatMap_cons, ih fun z hz => hy z (List.mem_cons_of_mem _ hz)]
          congr 1
          rw [List.filter_filter]
          refine List.filter_congr fun x hx => ?_
          have := hy y List.mem_cons_self
          by_cases ex : x.1 = y
          · rw [decide_eq_true ex, Bool.true_and]
            exact (decide_eq_true (by omega)).symm
          · rw [decide_eq_false ex, Bool.false_and]
      exact this fs fun y hy => hr.1 y hy
    rw [List.flatMap_cons, e, ih]
    exact h2.symm
theorem rowsL_files {L : LG} (hL : ∀ x ∈ L, x.2.ok) {x : Int × Rc} (hx : x ∈ L) : x.1 ∈ (rowsL L).map Prod.fst := by
  have h6 := recB_len (hL x hx)
  obtain ⟨b, hb⟩ : ∃ b, b ∈ recB x.2 := by
    cases h : recB x.2 with
    | nil => rw [h] at h6; simp at h6
    | cons b r => exact ⟨b, List.mem_cons_self⟩
  exact List.mem_map.2 ⟨(x.1, b), List.mem_flatMap.2 ⟨x, hx, List.mem_map.2 ⟨b, hb, rfl⟩⟩, rfl⟩
theorem allM_log {L : LG} (hL : L.ok) {g : Int} {t : List Int} (ht : isBytes t) (hn : oneM t = none) : allM (rowsL L ++ t.map fun b => (g, b)) = L.map Prod.snd := by
  have hb : ∀ f, (scanM (bytesOf f (rowsL L ++ t.map fun b => (g, b)))).1 = (L.filter fun x => decide (x.1 = f)).map Prod.snd := by
    intro f
    rw [bytesOf_append, bytesOf_rowsL]
    have hok : ∀ r ∈ (L.filter fun x => decide (x.1 = f)).map Prod.snd, r.ok := fun r hr => by
      obtain ⟨x, hx, rfl⟩ := List.mem_map.1 hr
      exact hL.recs x (List.mem_filter.1 hx).1
    by_cases e : f = g
    · subst e
      rw [bytesOf_same, scanM_whole hok ht hn]
    · rw [bytesOf_other e, List.append_nil, scanM_recs hok]
  unfold allM
  have e1 : (fun f => (scanM (bytesOf f (rowsL L ++ t.map fun b => (g, b)))).1) = fun f => (L.filter fun x => decide (x.1 = f)).map Prod.snd := funext hb
  rw [e1]
  have e2 := rising_flat (filesOf_rising (rowsL L ++ t.map fun b => (g, b))) hL.up fun x hx => by
    rw [mem_filesOf, List.map_append]
    exact List.mem_append_left _ (rowsL_files hL.recs hx)
  have e3 := congrArg (List.map Prod.snd) e2
  rw [List.map_flatMap] at e3
  exact e3
theorem allM_log0 {L : LG} (hL : L.ok) : allM (rowsL L) = L.map Prod.snd := by
  have := allM_log hL (g := 0) (t := []) (fun x hx => by cases hx) rfl
  simpa using this
/-- A cut leaves whole records and a part of one. -/
theorem rowsL_cut : ∀ (L : LG) (n : Nat), ∃ p g t, (rowsL L).take n = rowsL (L.take p) ++ (t.map fun b => (g, b)) ∧ p ≤ L.length ∧
    (t = [] ∨ ∃ r : Rc, (∃ x ∈ L, r = x.2) ∧ ∃ k, k < (recB r).length ∧ t = (recB r).take k) ∧ ∀ m, m ≤ L.length → (rowsL (L.take m)).length ≤ n → (∀ x ∈ L, 0 < (recB x.2).length) → m ≤ p
  | [], n => ⟨0, 0, [], by simp [rowsL], Nat.zero_le _, .inl rfl, fun m hm _ _ => hm⟩
  | x :: L, n => by
    rcases Nat.lt_or_ge n (recB x.2).length with h | h
    · refine ⟨0, x.1, (recB x.2).take n, ?_, Nat.zero_le _, .inr ⟨x.2, ⟨x, List.mem_cons_self, rfl⟩, n, h, rfl⟩, fun m hm hl hp => ?_⟩
      · rw [rowsL_cons, List.take_append_of_le_length (by rw [List.length_map]; omega), List.map_take]
        rfl
      · cases m with
        | zero => exact Nat.le_refl _
        | succ m =>
          rw [List.take_succ_cons, rowsL_cons, List.length_append, List.length_map] at hl
          omega
    · obtain ⟨p, g, t, h1, h2, h3, h4⟩ := rowsL_cut L (n - (recB x.2).length)
      refine ⟨p + 1, g, t, ?_, by rw [List.length_cons]; omega, ?_, fun m hm hl hp => ?_⟩
      · rw [rowsL_cons, List.take_append, List.take_of_length_le (by rw [List.length_map]; omega), List.length_map, h1, List.take_succ_cons, rowsL_cons, List.append_assoc]
      · rcases h3 with h3 | ⟨r, ⟨y, hy, hr⟩, h5⟩
        · exact .inl h3
        · exact .inr ⟨r, ⟨y, List.mem_cons_of_mem _ hy, hr⟩, h5⟩
      · cases m with
        | zero => omega
        | succ m =>
          rw [List.take_succ_cons, rowsL_cons, List.length_append, List.length_map] at hl
          have := h4 m (by simp at hm; omega) (by omega) fun y hy => hp y (List.mem_cons_of_mem _ hy)
          omega
/-- A record in a new last segment. -/
theorem allM_new {rows : DR} {g : Int} {r : Rc} (hr : r.ok) (hg : ∀ x ∈ rows, x.1 < g) : allM (rows ++ (recB r).map fun b => (g, b)) = allM rows ++ [r] := by
  have hpos := recB_len hr
  have hfiles : filesOf (rows ++ (recB r).map fun b => (g, b)) = filesOf rows ++ [g] := by
    refine rising_eq (filesOf_rising _) ?_ fun x => ?_
    · rw [List.pairwise_append]
      refine ⟨filesOf_rising rows, List.pairwise_singleton _ _, fun a ha b hb => ?_⟩
      rw [List.mem_singleton] at hb
      subst hb
      obtain ⟨y, hy, rfl⟩ := List.mem_map.1 (mem_filesOf.1 ha)
      exact hg y hy
    · rw [mem_filesOf, List.map_append, List.mem_append, List.mem_append, mem_filesOf, List.mem_singleton]
      refine or_congr Iff.rfl ⟨fun h => ?_, fun h => ?_⟩
      · obtain ⟨y, hy, rfl⟩ := List.mem_map.1 h
        obtain ⟨b, _, rfl⟩ := List.mem_map.1 hy
        rfl
      · subst h
        cases h : recB r with
        | nil => rw [h] at hpos; simp at hpos
        | cons b l => simp
  unfold allM
  rw [hfiles, List.flatMap_append]
  congr 1
  · have : ∀ l : List Int, (∀ f ∈ l, f ≠ g) → l.flatMap (fun f => (scanM (bytesOf f (rows ++ (recB r).map fun b => (g, b)))).1) = l.flatMap fun f => (scanM (bytesOf f rows)).1 := by
      intro l
      induction l with
      | nil => intro _; rfl
      | cons f l ih =>
        intro h
        rw [List.flatMap_cons, List.flatMap_cons, ih fun y hy => h y (List.mem_cons_of_mem _ hy), bytesOf_append, bytesOf_other (h f List.mem_cons_self), List.append_nil]
    refine this _ fun f hf e => ?_
    obtain ⟨y, hy, rfl⟩ := List.mem_map.1 (mem_filesOf.1 hf)
    have := hg y hy
    omega
  · have hn : bytesOf g rows = [] := by
      unfold bytesOf
      rw [List.filter_eq_nil_iff.2 fun y hy => by have := hg y hy; simp; omega]
      rfl
    have h1 := scanM_recs (rs := [r]) fun x hx => by rw [List.mem_singleton] at hx; subst hx; exact hr
    simp only [List.flatMap_cons, List.flatMap_nil, List.append_nil] at h1 ⊢
    rw [bytesOf_append, hn, bytesOf_same, List.nil_append, h1]
theorem dropR_log (below : Int) (L : LG) : dropR below (rowsL L) = rowsL (L.filter fun x => decide (below ≤ x.1)) := by
  unfold dropR
  induction L with
  | nil => rfl
  | cons x L ih =>
    rw [rowsL_cons, List.filter_append, ih, List.filter_cons]
    by_cases e : below ≤ x.1
    · rw [if_pos (decide_eq_true e), rowsL_cons, List.filter_eq_self.2]
      intro y hy
      obtain ⟨b, _, rfl⟩ := List.mem_map.1 hy
      exact decide_eq_true e
    · rw [if_neg (by simpa using e), List.filter_eq_nil_iff.2, List.nil_append]
      intro y hy
      obtain ⟨b, _, rfl⟩ := List.mem_map.1 hy
      simpa using e
theorem sorted_suffix {below : Int} : ∀ {L : LG}, (L.Pairwise fun x y => x.1 ≤ y.1) → L.filter (fun x => decide (below ≤ x.1)) = L.drop (L.length - (L.filter fun x => decide (below ≤ x.1)).length)
  | [], _ => rfl
  | x :: L, h => by
    rw [List.pairwise_cons] at h
    by_cases e : below ≤ x.1
    · have : (x :: L).filter (fun x => decide (below ≤ x.1)) = x :: L := List.filter_eq_self.2 fun y hy => by
        rcases List.mem_cons.1 hy with rfl | hy
        · exact decide_eq_true e
        · have := h.1 y hy
          exact decide_eq_true (by omega)
      rw [this, Nat.sub_self, List.drop_zero]
    · have ih := sorted_suffix (below := below) h.2
      rw [List.filter_cons, if_neg (by simpa using e)]
      have hl : (L.filter fun x => decide (below ≤ x.1)).length ≤ L.length := List.length_filter_le _ _
      rw [List.length_cons, show L.length + 1 - (L.filter fun x => decide (below ≤ x.1)).length = (L.length - (L.filter fun x => decide (below ≤ x.1)).length) + 1 by omega, List.drop_succ_cons]
      exact ih
/-- What holds of the log. -/
structure LogI (rows : DR) (syn : Nat) (s : RL) (L : LG) : Prop where
  rows' : rows = rowsL L
  ok : L.ok
  seg : ∀ x ∈ L, x.1 ≤ s.seg
  next : s.next = L.length
  ssyn : s.syn ≤ L.length
  syn : syn = (rowsL (L.take s.syn)).length
theorem LogI.append {rows : DR} {syn : Nat} {s : RL} {L : LG} (h : LogI rows syn s L) {r : Rc} (hb : isBytes r.data) (he : appE rows s r = 0) :
    LogI (appRows rows s r) syn (appS rows s r) (L ++ [((appS rows s r).seg, r)]) := by
  have hs := appS_seg2 (rows := rows) (s := s) (r := r)
  have hok := appE_ok hb he
  have e1 : appRows rows s r = rows ++ (recB r).map fun b => ((appS rows s r).seg, b) := by unfold appRows; rw [if_neg (by rw [he]; decide)]
  have e2 : (appS rows s r).next = s.next + 1 := by unfold appS; rw [if_neg (by rw [he]; decide)]
  refine ⟨?_, ⟨fun x hx => ?_, ?_⟩, fun x hx => ?_, ?_, ?_, ?_⟩
  · rw [e1, rowsL_append, rowsL_one, h.rows']
  · rcases List.mem_append.1 hx with hx | hx
    · exact h.ok.recs x hx
    · rw [List.mem_singleton] at hx; subst hx; exact hok
  · rw [List.pairwise_append]
    refine ⟨h.ok.up, List.pairwise_singleton _ _, fun a ha b hb => ?_⟩
    rw [List.mem_singleton] at hb
    subst hb
    have := h.seg a ha
    dsimp only
    omega
  · rcases List.mem_append.1 hx with hx | hx
    · have := h.seg x hx; omega
    · rw [List.mem_singleton] at hx; subst hx; exact Int.le_refl _
  · rw [e2, h.next, List.length_append]; rfl
  · rw [hs.2.2.2.1, List.length_append]; have := h.ssyn; omega
  · rw [hs.2.2.2.1, List.take_append_of_le_length h.ssyn]; exact h.syn
theorem LogI.sync {rows : DR} {syn : Nat} {s : RL} {L : LG} (h : LogI rows syn s L) : LogI rows rows.length { s with syn := s.next } L :=
  ⟨h.rows', h.ok, h.seg, h.next, by dsimp only; rw [h.next]; exact Nat.le_refl _, by dsimp only; rw [h.next, List.take_length, ← h.rows']⟩
theorem LogI.turn {rows : DR} {syn : Nat} {s : RL} {L : LG} (h : LogI rows syn s L) : LogI rows syn { s with seg := s.seg + 1 } L :=
  ⟨h.rows', h.ok, fun x hx => by have := h.seg x hx; dsimp only; omega, h.next, h.ssyn, h.syn⟩
theorem LogI.cut {rows : DR} {syn : Nat} {s : RL} {L : LG} (h : LogI rows syn s L) (keep : Int) : ∃ p, s.syn ≤ p ∧ p ≤ L.length ∧ allM (crashR rows syn keep) = (L.take p).map Prod.snd := by
  unfold crashR
  obtain ⟨n, hn⟩ : ∃ n, syn + (min (max keep 0) ((rows.length : Int) - syn)).toNat = n := ⟨_, rfl⟩
  rw [hn]
  have hsn : syn ≤ n := by omega
  obtain ⟨p, g, t, h1, h2, h3, h4⟩ := rowsL_cut L n
  have hpos : ∀ x ∈ L, 0 < (recB x.2).length := fun x hx => by have := recB_len (h.ok.recs x hx); omega
  have hp := h4 s.syn h.ssyn (by rw [← h.syn]; exact hsn) hpos
  have hLp : LG.ok (L.take p) := ⟨fun x hx => h.ok.recs x (List.mem_of_mem_take hx), h.ok.up.take⟩
  refine ⟨p, hp, h2, ?_⟩
  rw [h.rows', h1]
  rcases h3 with rfl | ⟨r, ⟨x, hx, rfl⟩, k, hk, rfl⟩
  · have := allM_log hLp (g := g) (t := []) (fun x hx => by cases hx) rfl
    exact this
  · exact allM_log hLp (isBytes_take _ (recB_bytes (h.ok.recs x hx))) (oneM_part (h.ok.recs x hx) hk)
end Go.Nm
namespace Go.Nm
open Go
theorem rdS.subS {H : Heap} {a : Option Addr} {cs : List Value} {k c sz : Nat} (h : rdS H a cs) (hc : cs.length ≤ c * sz) : rdS H (slB a k c sz) (cs.drop (k * sz)) := by
  intro j v hj
  have hj2 : lget cs (k * sz + j) = Option.some v := by
    rw [lget_eq'] at hj ⊢
    rwa [List.getElem?_drop] at hj
  have hlt := lget_lt hj2
  obtain ⟨h1, h2⟩ := h _ _ hj2
  have hne : c ≠ k := fun e => by subst e; omega
  have e : slB a k c sz = Option.some ⟨adrB a, adrO a + k * sz, none⟩ := by
    unfold slB
    rw [if_neg hne, h1, Option.map_some, Addr_add]
    rfl
  rw [e]
  refine ⟨rfl, ?_⟩
  show cellAt H (adrB a) (adrO a + k * sz + j) = _
  rw [Nat.add_assoc]
  exact h2
theorem rdS.sbS {H : Heap} {a : Option Addr} {cs : List Value} {m sz : Nat} (h : rdS H a cs) : rdS H (slB a 0 m sz) cs := by
  cases cs with
  | nil => exact rdS_nil _ _
  | cons v r => rw [slB0 (h 0 v rfl).1]; exact h
end Go.Nm
namespace Go.Proofs.Ytomdcdfcdeaabaa
open Go Go.Nm Go.Proofs
section
variable {H0 : Heap} {ca : Option Addr} {cc : Nat} {most : Int}
theorem openE_in {rows : DR} (h : 64 ≤ most ∧ most ≤ 1048576) (hs : segOf rows ≤ 2147483647) : openE most rows = 0 := by
  unfold openE
  rw [if_neg (by omega), if_neg (by omega)]
theorem recs_short {rows : DR} (ok : RowsOk rows) {rs : List Ry} (h : rs.map Ry.rc = allM rows) : rs.length ≤ rows.length ∧ ∀ r ∈ rs, r.y.bs.length ≤ 1099511627776 := by
  refine ⟨?_, fun r hr => ?_⟩
  · rw [← List.length_map (f := Ry.rc), h]
    exact allM_len ok
  · have hm : r.rc ∈ allM rows := by rw [← h]; exact List.mem_map.2 ⟨r, hr, rfl⟩
    obtain ⟨f, hf, hm⟩ := List.mem_flatMap.1 hm
    have := ((scanM_ok (Nat.le_refl _) (ok.bytes f)).1 _ hm).len
    unfold Ry.rc at this
    dsimp only at this
    omega
def ex7 : Rc := ⟨7, [120]⟩
theorem ex7_ok : ex7.ok := ⟨by decide, by decide, by decide, fun x hx => by
  simp only [ex7, List.mem_singleton] at hx
  omega⟩
theorem app_new {rows : DR} (ok : RowsOk rows) (hg : ∀ x ∈ rows, x.1 < segOf rows) {r : Rc} (hr : r.ok) :
    appE rows (opS most rows) r = 0 ∧ appS rows (opS most rows) r = ⟨most, segOf rows, (allM rows).length + 1, (allM rows).length⟩ ∧ appRows rows (opS most rows) r = rows ++ (recB r).map fun b => (segOf rows, b) := by
  have hn : bytesOf (segOf rows) rows = [] := by
    unfold bytesOf
    rw [List.filter_eq_nil_iff.2 fun y hy => by have := hg y hy; simp; omega]
    rfl
  have ht : turns rows (opS most rows) (recB r).length = false := by
    unfold turns
    dsimp only
    rw [hn]
    rfl
  have he : appE rows (opS most rows) r = 0 := by
    unfold appE
    rw [bytesE_of hr, if_neg (by decide), ht]; rfl
  have hs : appS rows (opS most rows) r = ⟨most, segOf rows, (allM rows).length + 1, (allM rows).length⟩ := by unfold appS; rw [if_neg (by rw [he]; decide), ht]; rfl
  refine ⟨he, hs, ?_⟩
  unfold appRows; rw [if_neg (by rw [he]; decide), hs]
theorem files_lt {rows : DR} : ∀ x ∈ rows, x.1 < segOf rows := by
  intro r hr
  have hf : r.1 ∈ filesOf rows := mem_filesOf.2 (List.mem_map.2 ⟨r, hr, rfl⟩)
  obtain ⟨i, hi, he⟩ := List.getElem_of_mem hf
  obtain ⟨n, hn⟩ : ∃ n, n + 1 = (filesOf rows).length := ⟨(filesOf rows).length - 1, by omega⟩
  obtain ⟨f, h1, h2, h3⟩ := segOf_cons hn
  have hnl : n < (filesOf rows).length := by omega
  rw [List.getElem?_eq_getElem hnl] at h1
  have h1 := Option.some.inj h1
  rw [h2, ← he, ← h1]
  rcases Nat.lt_or_ge i n with h | h
  · have := List.pairwise_iff_getElem.1 (filesOf_rising rows) i n hi hnl h
    omega
  · have : i = n := by omega
    subst this
    omega
theorem ci0 (h : 64 ≤ most ∧ most ≤ 1048576) : LogI [] 0 (opS most []) [] := by
  obtain ⟨_, h2, h3⟩ := ex_all
  unfold opS
  rw [h2, h3]
  exact ⟨rfl, ⟨fun x hx => (by cases hx), List.Pairwise.nil⟩, fun x hx => (by cases hx), rfl, Nat.le_refl _, rfl⟩
theorem append_one {rb db : Nat} {rows : DR} {syn : Nat} {s : RL} {x : RD} {a : Option Addr} {c b : Nat} {H : Heap} {F : List Assn} {K : Value → Heap → Prop} (hs : s.ok) (hB : rows.length ≤ 549755813888) (hxb : isBytes x.bs) (hx : x.bs.length ≤ 200)
    (h : SatL H (cellsA b [.slice a x.bs.length c] 32 :: slA 5 1 a x.bs.length c (x.bs.map U8) :: reelA rb db s :: diskX db rows syn :: F))
    (k : ∀ H', SatL H' (reelA rb db (appS rows s ⟨x.kind, x.bs⟩) :: diskX db (appRows rows s ⟨x.kind, x.bs⟩) syn :: F) → K (.tuple #[.int .i64 (appN rows s ⟨x.kind, x.bs⟩), .int .i64 (appE rows s ⟨x.kind, x.bs⟩)]) H') :
    CallF Try.prog 43 #[.pointer (some ⟨rb, 0, none⟩), .int .i64 x.kind, .slice (some ⟨b, 0, none⟩) 1 1] H K := by
  have efl : ([⟨a, c, x.bs⟩] : List Fy).flatMap Fy.bs = x.bs := by simp
  have hk := AppendR_spec (F := cellsA b [.slice a x.bs.length c] 32 :: slA 5 1 a x.bs.length c (x.bs.map U8) :: F) (a := some ⟨b, 0, none⟩) (c := 1) (kind := x.kind) (parts := [⟨a, c, x.bs⟩]) (K := K) hs hB (h.ordt [2, 3, 0, 1] 4 (by decide) (by decide)) (fun H h => h.ce_rd 0 rfl) (fun H h p hp => by
    rw [List.mem_singleton] at hp; subst hp; exact h.sl_rd 1 rfl) (by rw [efl]; exact hxb) (Nat.le_of_ble_eq_true rfl) (by rw [efl]; omega)
  rw [efl] at hk
  exact hk fun H' h => k H' (h.ordt [0, 1] 4 (by decide) (by decide))

theorem append7 {rb db b5 b6 : Nat} {rows : DR} {syn : Nat} {H : Heap} {F : List Assn} {K : Value → Heap → Prop} (ok : RowsOk rows) (hs : (opS most rows).ok) (hB : rows.length ≤ 549755813888)
    (h : SatL H (cellsA b6 [.slice (some ⟨b5, 0, none⟩) 1 1] 32 :: litA b5 [U8 120] 5 :: reelA rb db (opS most rows) :: diskX db rows syn :: F))
    (k : ∀ H', SatL H' (reelA rb db ⟨most, segOf rows, (allM rows).length + 1, (allM rows).length⟩ :: diskX db (rows ++ (recB ex7).map fun b => (segOf rows, b)) syn :: F) → K (.tuple #[.int .i64 (appN rows (opS most rows) ex7), .int .i64 0]) H') :
    CallF Try.prog 43 #[.pointer (some ⟨rb, 0, none⟩), .int .i64 7, .slice (some ⟨b6, 0, none⟩) 1 1] H K := by
  have efl : ([⟨some ⟨b5, 0, none⟩, 1, [120]⟩] : List Fy).flatMap Fy.bs = [120] := rfl
  have hk := AppendR_spec (F := cellsA b6 [.slice (some ⟨b5, 0, none⟩) 1 1] 32 :: litA b5 [U8 120] 5 :: F) (a := some ⟨b6, 0, none⟩) (c := 1) (kind := 7) (parts := [⟨some ⟨b5, 0, none⟩, 1, [120]⟩]) (K := K) hs hB (h.ordt [2, 3, 0, 1] 4 (by decide) (by decide)) (fun H h => h.ce_rd 0 rfl) (fun H h y hy => by
    rw [List.mem_singleton] at hy; subst hy; exact h.lit_rd 1 rfl) ex7_ok.by' (Nat.le_of_ble_eq_true rfl) (Nat.le_of_ble_eq_true rfl)
  rw [efl, show (⟨7, [120]⟩ : Rc) = ex7 from rfl] at hk
  obtain ⟨z1, z2, z3⟩ := app_new (most := most) ok files_lt ex7_ok
  rw [z1, z2, z3] at hk
  exact hk fun H' h => k H' (h.ordt [0, 1] 4 (by decide) (by decide))

theorem ReelDrops_true {calls : List RD} {below : Int} (hlen0 : calls.length ≤ maxLen) (hc : rdS H0 ca (flat encD calls)) (hq : ∀ x ∈ calls, RCallOk H0 x) :
    CallF Try.prog 11 #[.int .i64 most, .slice ca calls.length cc, .int .i64 below] H0 fun v H' => v = .bool true ∧ Grow H0 H' := by
  refine ReelDrops.call ?_
  unfold ReelDrops.code
  refine alive28_spec (sat0 H0) fun H1 h => ⟨_, rfl, (fun hf => by cases hf), fun _ => ?_⟩
  refine ⟨_, Great36_spec (h.old_rd 0 rfl hc) hlen0, fun _ => ⟨rfl, h.old_grow 0 rfl⟩, fun hg => ?_⟩
  rw [Bool.or_eq_false_iff, Bool.or_eq_false_iff] at hg
  obtain ⟨hlen, hbig⟩ := great36_no hg.1.1
  have hrange : 64 ≤ most ∧ most ≤ 1048576 := by
    have h1 := of_decide_eq_false hg.1.2
    have h2 := of_decide_eq_false hg.2
    omega
  have ok0 : RowsOk ([] : DR) := fun r hr => by cases hr
  have he0 : openE most [] = 0 := openE_in hrange (by rw [ex_all.2.2]; decide)
  refine New_spec h fun db H2 h => ⟨_, rfl, (fun hf => by cases hf), fun _ => ?_⟩
  refine Open_spec ok0 (Nat.zero_le _) h (fun _ rs0 a1 c1 rb H3 hrs h => ⟨_, _, _, _, _, rfl, (fun hf => by cases hf), fun _ => ?_⟩) fun hf => absurd he0 hf
  refine ⟨fun i H' => ∃ (j : Nat) (rows : DR) (syn : Nat) (s : RL) (L : LG), i = j ∧ j ≤ calls.length ∧ TI most rows syn s j ∧ LogI rows syn s L ∧ SatL H' (reelA rb db s :: diskX db rows syn :: [old H0]), fun i _ => calls.length - i.toNat,
    ⟨0, [], 0, _, [], rfl, Nat.zero_le _, ti0 he0, ci0 hrange, h.ordt [0, 3] 4 (by decide) (by decide)⟩, ?_⟩
  rintro i H4 ⟨j, rows, syn, s, L, rfl, hj, ti, ci, h⟩
  have hok := ti.ok (by omega)
  have hrl := ti.len
  have hsg := ti.seg
  have hsg0 := ti.seg0
  unfold ReelDrops.l5
  refine ⟨fun hx => ?_, fun hx => ?_⟩
  · have hlt : j < calls.length := by simpa using hx
    have hr := h.old_rd 2 rfl hc
    have hm := List.getElem_mem hlt
    have hxo := hq _ hm
    have hxb := hbig _ hm
    refine ⟨⟨by omega, by omega⟩, _, _, hr.some encD_len (by omega) hlt, _, hr.el0 encD_len hlt rfl, fun Jn hJ => ?_⟩
    have fin : ∀ rows' syn' s' L' H', TI most rows' syn' s' (j + 1) → LogI rows' syn' s' L' → SatL H' (reelA rb db s' :: diskX db rows' syn' :: [old H0]) → Jn H' := by
      intro rows' syn' s' L' H' ti' ci' h'
      refine hJ _ ?_
      unfold ReelDrops.r1
      rw [w64 (x := (j : Int) + 1) (by omega) (by omega)]
      exact ⟨⟨j + 1, _, _, _, _, rfl, hlt, ti', ci', h'⟩, by simp only [Int.toNat_natCast]; omega⟩
    refine ⟨fun hc0 => ?_, fun n0 => ?_⟩
    · refine ⟨⟨by omega, by omega⟩, _, _, hr.some encD_len (by omega) hlt, _, hr.el encD_len hlt 1 rfl, ⟨by omega, by omega⟩, _, _, hr.some encD_len (by omega) hlt, _, _, _, hr.el encD_len hlt 3 rfl, ?_⟩
      refine CopyBytes_own h (fun H h => h.old_rd 2 rfl hxo.1) (by omega) fun oa oc H5 h => ⟨_, _, _, rfl, (h.old_rd 3 rfl hc).el encD_len hlt 1 rfl, ?_⟩
      refine h.al fun b3 H6 h => ⟨(h.old_rd 4 rfl hc).el encD_len hlt 1 rfl, ?_⟩
      refine append_one (x := calls[j]) hok (by omega) hxo.2.2 hxb h fun H7 h => ⟨_, _, rfl, ?_⟩
      by_cases he : appE rows s ⟨calls[j].kind, calls[j].bs⟩ = 0
      · exact fin _ _ _ _ _ (ti.append (by omega) hxo.2.2 hxb) (ci.append hxo.2.2 he) h
      · have e1 : appRows rows s ⟨calls[j].kind, calls[j].bs⟩ = rows := by unfold appRows; rw [if_pos he]
        have e2 : appS rows s ⟨calls[j].kind, calls[j].bs⟩ = s := by unfold appS; rw [if_pos he]
        rw [e1, e2] at h
        exact fin _ _ _ _ _ ti.mono ci h
    · intro Jn1 hJ1
      have fin1 : ∀ rows' syn' s' L' H', TI most rows' syn' s' (j + 1) → LogI rows' syn' s' L' → SatL H' (reelA rb db s' :: diskX db rows' syn' :: [old H0]) → Jn1 H' := fun rows' syn' s' L' H' ti' ci' h' => hJ1 _ (by
        unfold ReelDrops.r2
        exact fin _ _ _ _ _ ti' ci' h')
      refine ⟨fun hc2 => ?_, fun n2 => fin1 _ _ _ _ _ ti.mono ci h⟩
      exact Turn_spec ⟨hsg0, by omega⟩ h (fun hf => absurd hf (by omega)) fun _ H5 h => ⟨_, _, rfl, fin1 _ _ _ _ _ ti.turn ci.turn h⟩
  · refine RSyncR_spec h fun H5 h => ⟨rfl, ?_⟩
    have ti' := ti.sync
    have ci' := ci.sync
    have hsl := segOf_le hsg0 ti.files
    refine Open_spec (F := reelA rb db { s with syn := s.next } :: [old H0]) ti.rok (by omega) (h.ordt [1, 0] 2 (by decide) (by decide)) (fun _ rs a2 c2 qb H6 hrs h => ⟨_, _, _, _, _, rfl, ?_⟩) fun hf => absurd (openE_in hrange (by omega)) hf
    have h := h.ordt [4, 3, 1, 2] 5 (by decide) (by decide)
    refine ⟨_, Next_spec h, ?_⟩
    refine DropR_spec (below := below) (by omega) (Nat.le_refl _) h (fun hf => absurd hf (Nat.lt_irrefl _)) fun _ H7 h => ⟨_, rfl, ?_⟩
    have hdok : RowsOk (dropR below rows) := ti.rok.filter _
    have hdl : (dropR below rows).length ≤ rows.length := List.length_filter_le _ _
    have hdseg := segOf_le (rows := dropR below rows) hsg0 fun r hr => ti.files r (List.mem_filter.1 hr).1
    refine Open_spec (F := reelA rb db { s with syn := s.next } :: slA 52 2 a2 rs.length c2 (flat encR rs) :: rowsR rs :: [old H0]) hdok (by omega) (h.ordt [1, 0, 2, 3] 4 (by decide) (by decide)) (fun _ ls a3 c3 qb2 H8 hls h => ⟨_, _, _, _, _, rfl, fun Jn2 hJ2 => ?_⟩) fun hf => absurd (openE_in hrange (by omega)) hf
    obtain ⟨hrs1, hrs2⟩ := recs_short ti.rok hrs
    obtain ⟨hls1, hls2⟩ := recs_short hdok hls
    have hLd : LG.ok (L.filter fun x => decide (below ≤ x.1)) := ⟨fun x hx => ci.ok.recs x (List.mem_filter.1 hx).1, ci.ok.up.filter _⟩
    have eL : rs.map Ry.rc = L.map Prod.snd := by rw [hrs, ci.rows', allM_log0 ci.ok]
    have eF : ls.map Ry.rc = (L.filter fun x => decide (below ≤ x.1)).map Prod.snd := by rw [hls, ci.rows', dropR_log, allM_log0 hLd]
    have l1 : rs.length = L.length := by have := congrArg List.length eL; simpa using this
    have l2 : ls.length = (L.filter fun x => decide (below ≤ x.1)).length := by have := congrArg List.length eF; rwa [List.length_map, List.length_map] at this
    have l3 : (L.filter fun x => decide (below ≤ x.1)).length ≤ L.length := List.length_filter_le _ _
    obtain ⟨k, hk⟩ : ∃ k, rs.length - ls.length = k := ⟨_, rfl⟩
    have ek : IntKind.i64.wrap ((rs.length : Int) - (ls.length : Int)) = (k : Nat) := by rw [w64 (by omega) (by omega)]; omega
    have hnc := h.sl_nc 5 rfl
    rw [ek, Int.toNat_natCast]
    refine ⟨fun _ => ⟨by omega, by omega, by omega⟩, fun _ => ?_, fun hf => absurd (by simp; omega) hf⟩
    refine of_spec h (fun H h => h.sl_rd 1 rfl) (by omega) fun a4 c4 H9 h => ⟨_, _, _, rfl, ?_⟩
    have hdr : (rs.drop k).length = rs.length - k := List.length_drop
    rw [← hdr]
    refine of_spec h (fun H h => by
      have := rdS.subS (k := k) (c := c2) (sz := 2) (h.sl_rd 6 rfl) (by rw [flat_length encR_len]; exact Nat.mul_le_mul_right _ hnc)
      rwa [Go.Nm.flat_drop encR_len] at this) (by omega) fun a5 c5 H10 h => ⟨_, _, _, rfl, ?_⟩
    have q := Same_spec (c := c4) (d := c5) (h.sl_rd 1 rfl) (h.sl_rd 0 rfl) (rowsR_rd (h.ordt [4] 10 (by decide) (by decide))) (fun r hr => rowsR_rd (h.ordt [8] 10 (by decide) (by decide)) r (List.mem_of_mem_drop hr)) (by omega) hls2
    have e6 : ls.map Ry.rc = (rs.drop k).map Ry.rc := by
      rw [List.map_drop, eL, eF, sorted_suffix ci.ok.up, List.map_drop, ← hk, l1, l2]
    rw [decide_eq_true e6] at q
    refine ⟨_, q, _, fun _ => Next_spec (h.ordt [6] 10 (by decide) (by decide)), hJ2 _ _ ?_⟩
    unfold ReelDrops.r4
    refine ⟨fun hf => by simp at hf, fun _ => ?_⟩
    have hfl := filesOf_length_le (dropR below rows)
    refine Files_spec (F := [old H0]) (by omega) (h.ordt [5, 9] 10 (by decide) (by decide)) fun fa fc H11 h => ⟨_, _, _, rfl, ?_⟩
    refine ⟨fun i H' => ∃ m : Nat, i = m ∧ m ≤ (filesOf (dropR below rows)).length ∧ H' = H11, fun i _ => (filesOf (dropR below rows)).length - i.toNat, ⟨0, rfl, Nat.zero_le _, rfl⟩, ?_⟩
    rintro i H12 ⟨m, rfl, hm, rfl⟩
    unfold ReelDrops.l3
    refine ⟨fun hx => ?_, fun _ => ⟨rfl, h.old_grow 2 rfl⟩⟩
    have hlt : m < (filesOf (dropR below rows)).length := by simpa using hx
    have hr := (h.sl_rd 0 rfl).at hlt
    have hge : below ≤ (filesOf (dropR below rows))[m] := by
      obtain ⟨r, hr, he⟩ := List.mem_map.1 (mem_filesOf.1 (List.getElem_mem hlt))
      rw [← he]
      exact of_decide_eq_true (List.mem_filter.1 hr).2
    refine ⟨⟨by omega, by omega⟩, _, _, hr.1, _, hr.2, fun hf => absurd (of_decide_eq_true hf) (by omega), fun _ => ?_⟩
    rw [w64 (x := (m : Int) + 1) (by omega) (by omega)]
    exact ⟨⟨m + 1, rfl, hlt, rfl⟩, by simp only [Int.toNat_natCast]; omega⟩

theorem ReelCrash_true {calls : List RD} {keep : Int} (hlen0 : calls.length ≤ maxLen) (hc : rdS H0 ca (flat encD calls)) (hq : ∀ x ∈ calls, RCallOk H0 x) (hkeep : wf64 keep) :
    CallF Try.prog 10 #[.int .i64 most, .slice ca calls.length cc, .int .i64 keep] H0 fun v H' => v = .bool true ∧ Grow H0 H' := by
  refine ReelCrash.call ?_
  unfold ReelCrash.code
  refine alive28_spec (sat0 H0) fun H1 h => ⟨_, rfl, (fun hf => by cases hf), fun _ => ?_⟩
  refine ⟨_, Great36_spec (h.old_rd 0 rfl hc) hlen0, fun _ => ⟨rfl, h.old_grow 0 rfl⟩, fun hg => ?_⟩
  rw [Bool.or_eq_false_iff, Bool.or_eq_false_iff] at hg
  obtain ⟨hlen, hbig⟩ := great36_no hg.1.1
  have hrange : 64 ≤ most ∧ most ≤ 1048576 := by
    have h1 := of_decide_eq_false hg.1.2
    have h2 := of_decide_eq_false hg.2
    omega
  have ok0 : RowsOk ([] : DR) := fun r hr => by cases hr
  have he0 : openE most [] = 0 := openE_in hrange (by rw [ex_all.2.2]; decide)
  refine New_spec h fun db H2 h => ⟨_, rfl, (fun hf => by cases hf), fun _ => ?_⟩
  refine Open_spec ok0 (Nat.zero_le _) h (fun _ rs0 a1 c1 rb H3 hrs h => ⟨_, _, _, _, _, rfl, (fun hf => by cases hf), fun _ => ?_⟩) fun hf => absurd he0 hf
  refine h.al fun b H4 h => ?_
  have h := (SatL.sl_pt (cs := []) h 2 0 rfl).ordt [0, 1, 4] 5 (by decide) (by decide)
  refine ⟨fun oa on oc i H' => ∃ (j : Nat) (rows : DR) (syn : Nat) (s : RL) (L : LG) (ars : List Ry), i = j ∧ j ≤ calls.length ∧ on = ars.length ∧ ars.length ≤ j ∧ TI most rows syn s j ∧ LogI rows syn s L ∧ ars.map Ry.rc = L.map Prod.snd ∧ (∀ r ∈ ars, rdS H0 r.y.a (r.y.bs.map U8)) ∧
    SatL H' (slA 80 2 oa ars.length oc (flat encR ars) :: reelA rb db s :: diskX db rows syn :: [old H0]), fun _ _ _ i _ => calls.length - i.toNat,
    ⟨0, [], 0, _, [], [], rfl, Nat.zero_le _, rfl, Nat.le_refl _, ti0 he0, ci0 hrange, rfl, fun r hr => (by cases hr), h⟩, ?_⟩
  rintro oa on oc i H5 ⟨j, rows, syn, s, L, ars, rfl, hj, rfl, haj, ti, ci, hars, hard, h⟩
  have hok := ti.ok (by omega)
  have hrl := ti.len
  have hsg := ti.seg
  have hsg0 := ti.seg0
  have hlal : ars.length = L.length := by have := congrArg List.length hars; simpa using this
  unfold ReelCrash.l7
  refine ⟨fun hx => ?_, fun hx => ?_⟩
  · have hlt : j < calls.length := by simpa using hx
    have hr := h.old_rd 3 rfl hc
    have hm := List.getElem_mem hlt
    have hxo := hq _ hm
    have hxb := hbig _ hm
    refine ⟨⟨by omega, by omega⟩, _, _, hr.some encD_len (by omega) hlt, _, _, _, _, _, _, hr.els encD_len hlt, ?_⟩
    generalize calls[j] = x at *
    refine h.al fun b2 H6 h => ?_
    refine h.st 0 rfl rfl fun H7 h => ⟨_, h.rd 0 rfl _, fun Jn hJ => ?_⟩
    have fin : ∀ oa' oc' (ars' : List Ry) rows' syn' s' L' H', TI most rows' syn' s' (j + 1) → LogI rows' syn' s' L' → ars'.map Ry.rc = L'.map Prod.snd → ars'.length ≤ j + 1 → (∀ r ∈ ars', rdS H0 r.y.a (r.y.bs.map U8)) →
        SatL H' (slA 80 2 oa' ars'.length oc' (flat encR ars') :: reelA rb db s' :: diskX db rows' syn' :: [old H0]) → Jn oa' ars'.length oc' H' := by
      intro oa' oc' ars' rows' syn' s' L' H' ti' ci' e' hl' hd' h'
      refine hJ _ _ _ _ ?_
      unfold ReelCrash.r1
      rw [w64 (x := (j : Int) + 1) (by omega) (by omega)]
      exact ⟨⟨j + 1, _, _, _, _, _, rfl, hlt, rfl, hl', ti', ci', e', hd', h'⟩, by simp only [Int.toNat_natCast]; omega⟩
    refine ⟨fun hc0 => ?_, fun n0 => ?_⟩
    · refine ⟨_, h.rd 0 rfl _, _, _, _, h.rd 0 rfl _, ?_⟩
      refine CopyBytes_own h (fun H h => h.old_rd 4 rfl hxo.1) (by omega) fun na nc H8 h => ⟨_, _, _, rfl, h.rd 1 rfl _, ?_⟩
      refine h.al fun b3 H9 h => ⟨h.rd 2 rfl _, ?_⟩
      refine append_one (x := x) hok (by omega) hxo.2.2 hxb (h.ordt [0, 1, 4, 5, 2, 3] 6 (by decide) (by decide)) fun H10 h => ⟨_, _, rfl, fun Jn1 hJ1 => ?_⟩
      refine ⟨fun he => ?_, fun he => hJ1 _ _ _ _ ?_⟩
      · have he : appE rows s ⟨x.kind, x.bs⟩ = 0 := of_decide_eq_true he
        have en : appN rows s ⟨x.kind, x.bs⟩ = (ars.length : Int) := by
          unfold appN
          rw [if_neg (by rw [he]; decide), ci.next, hlal]
        rw [en]
        refine ⟨fun hf => by simp at hf, fun _ => ⟨_, h.rd 2 rfl _, _, _, _, h.rd 2 rfl _, ?_⟩⟩
        rintro _ _ rfl rfl
        refine h.append1 sl57 3 rfl (by rfl) (by rfl) (by omega) (by omega) fun a8 c8 H11 h => ⟨_, _, _, rfl, hJ1 _ _ _ _ ?_⟩
        unfold ReelCrash.r2
        have el : ars.length + 1 = (ars ++ [(⟨x.kind, ⟨x.a, x.c, x.bs⟩⟩ : Ry)]).length := by simp
        rw [el]
        refine fin a8 c8 (ars ++ [⟨x.kind, ⟨x.a, x.c, x.bs⟩⟩]) _ _ _ _ _ (ti.append (by omega) hxo.2.2 hxb) (ci.append hxo.2.2 he) ?_ (by rw [← el]; omega) (fun r hr => ?_) ?_
        · rw [List.map_append, List.map_append, hars]; rfl
        · rcases List.mem_append.1 hr with hr | hr
          · exact hard r hr
          · rw [List.mem_singleton] at hr; subst hr; exact hxo.1
        · rw [← el, flat_append, flat_one]
          exact h.ordt [3, 0, 1, 4] 5 (by decide) (by decide)
      · have he : appE rows s ⟨x.kind, x.bs⟩ ≠ 0 := of_decide_eq_false he
        unfold ReelCrash.r2
        have e1 : appRows rows s ⟨x.kind, x.bs⟩ = rows := by unfold appRows; rw [if_pos he]
        have e2 : appS rows s ⟨x.kind, x.bs⟩ = s := by unfold appS; rw [if_pos he]
        rw [e1, e2] at h
        exact fin _ _ _ _ _ _ _ _ ti.mono ci hars (by omega) hard (h.ordt [3, 0, 1, 4] 5 (by decide) (by decide))
    · intro Jn2 hJ2
      have fin2 : ∀ rows' syn' s' L' H', TI most rows' syn' s' (j + 1) → LogI rows' syn' s' L' → L' = L → SatL H' (slA 80 2 oa ars.length oc (flat encR ars) :: reelA rb db s' :: diskX db rows' syn' :: [old H0]) → Jn2 H' := fun rows' syn' s' L' H' ti' ci' eL h' => hJ2 _ (by
        subst eL
        unfold ReelCrash.r3
        exact fin _ _ _ _ _ _ _ _ ti' ci' hars (by omega) hard h')
      refine ⟨fun hc1 => ?_, fun n1 Jn3 hJ3 => ⟨fun hc2 => ?_, fun n2 => ?_⟩⟩
      · exact RSyncR_spec (F := slA 80 2 oa ars.length oc (flat encR ars) :: [old H0]) (h.ordt [2, 3, 1, 4] 5 (by decide) (by decide)) fun H8 h => ⟨rfl, fin2 _ _ _ _ _ ti.sync ci.sync rfl (h.ordt [2, 0, 1, 3] 4 (by decide) (by decide))⟩
      · refine Turn_spec (F := slA 80 2 oa ars.length oc (flat encR ars) :: diskX db rows syn :: [old H0]) ⟨hsg0, by omega⟩ (h.ordt [2, 1, 3, 4] 5 (by decide) (by decide)) (fun hf => absurd hf (by omega)) fun _ H8 h => ⟨_, _, rfl, hJ3 _ ?_⟩
        unfold ReelCrash.r4
        exact fin2 _ _ _ _ _ ti.turn ci.turn rfl (h.ordt [1, 0, 2, 3] 4 (by decide) (by decide))
      · refine hJ3 _ ?_
        unfold ReelCrash.r4
        exact fin2 _ _ _ _ _ ti.mono ci rfl h.tl
  · refine ⟨_, Synced_spec h.tl, ?_⟩
    obtain ⟨ti', hop⟩ := ti.crash (by omega) keep
    obtain ⟨p, hp1, hp2, hp3⟩ := ci.cut keep
    have hcl := crashR_le rows syn keep
    refine Crash_spec (F := slA 80 2 oa ars.length oc (flat encR ars) :: [old H0]) hkeep (by omega) (h.ordt [2, 0, 3] 4 (by decide) (by decide)) fun H6 h => ⟨rfl, ?_⟩
    obtain ⟨rows', hrows'⟩ : ∃ r, crashR rows syn keep = r := ⟨_, rfl⟩
    rw [hrows'] at h ti' hop hp3 hcl
    refine Open_spec ti'.rok (by omega) h (fun _ rs a2 c2 qb H7 hrs h => ⟨_, _, _, _, _, rfl, fun Jn4 hJ4 => ?_⟩) fun hf => absurd hop hf
    obtain ⟨hrs1, hrs2⟩ := recs_short ti'.rok hrs
    have hpl : rs.length = p := by
      have := congrArg List.length hrs
      rw [hp3, List.length_map, List.length_map, List.length_take] at this
      omega
    have hnc := h.sl_nc 4 rfl
    refine ⟨fun _ => ⟨by omega, by omega, by omega⟩, fun _ => ?_, fun hf => absurd (by simp; omega) hf⟩
    refine of_spec h (fun H h => h.sl_rd 1 rfl) (by omega) fun a3 c3 H8 h => ⟨_, _, _, rfl, ?_⟩
    have htl : (ars.take p).length = rs.length := by rw [List.length_take]; omega
    have hrd : rdS H8 (slB oa 0 oc 2) (flat encR (ars.take p)) := by
      have := rdS.sbS (m := oc) (sz := 2) ((h.sl_rd 5 rfl).take (p * 2))
      rwa [Go.Nm.flat_take encR_len] at this
    have q := Same_spec (c := c3) (d := oc) (h.sl_rd 0 rfl) hrd (rowsR_rd (h.ordt [3] 7 (by decide) (by decide))) (fun r hr => h.old_rd 6 rfl (hard r (List.mem_of_mem_take hr))) (by omega) hrs2
    have e6 : rs.map Ry.rc = (ars.take p).map Ry.rc := by rw [hrs, hp3, List.map_take, List.map_take, hars]
    rw [decide_eq_true e6, htl] at q
    refine ⟨_, q, hJ4 _ _ ?_⟩
    unfold ReelCrash.r6
    refine ⟨(fun hf => by cases hf), fun _ => ?_⟩
    have h : SatL H8 (reelA qb db (opS most rows') :: diskX db rows' rows'.length :: slA 52 2 a2 rs.length c2 (flat encR rs) :: rowsR rs :: [old H0]) := h.ordt [1, 4, 2, 3, 6] 7 (by decide) (by decide)
    have c32 := fun {H : Heap} {L : List Assn} {K : Value → Heap → Prop} {b n c : Nat} {cs : List Value} => conv_same (P := Try.prog) (t := 32) (e := 5) (H := H) (L := L) (K := K) (b := b) (n := n) (c := c) (cs := cs) Try.underlying32 Try.underlying5
    refine h.al fun b5 _ h => c32 h fun H9 h => ⟨_, _, _, rfl, ?_⟩
    refine h.al fun b6 H10 h => ?_
    have hlen' := ti'.len
    have hsg' := ti'.seg
    dsimp only at hsg'
    refine append7 ti'.rok (ti'.ok (by omega)) (by omega) (h.ordt [0, 1, 2, 3, 4, 5] 6 (by decide) (by decide)) fun H11 h => ⟨_, _, rfl, ?_⟩
    refine RSyncR_spec (F := slA 52 2 a2 rs.length c2 (flat encR rs) :: rowsR rs :: [old H0]) h fun H12 h => ⟨rfl, ?_⟩
    have hrl7 := recB_len ex7_ok
    have h7 : ex7.data.length = 1 := rfl
    have hnok : RowsOk (rows' ++ (recB ex7).map fun b => (segOf rows', b)) := ti'.rok.app ⟨(segOf_in ti'.rok).1, by omega⟩ (recB_bytes ex7_ok)
    have hnl : (rows' ++ (recB ex7).map fun b => (segOf rows', b)).length ≤ rows'.length + 10 := by rw [List.length_append, List.length_map]; omega
    have hall := allM_new (g := segOf rows') ex7_ok (files_lt (rows := rows'))
    have hns : segOf (rows' ++ (recB ex7).map fun b => (segOf rows', b)) ≤ segOf rows' + 1 := segOf_le (segOf_in ti'.rok).1 fun r hr => by
      rcases List.mem_append.1 hr with hr | hr
      · have := files_lt r hr; omega
      · obtain ⟨b, _, rfl⟩ := List.mem_map.1 hr
        exact Int.le_refl _
    refine Open_spec (F := slA 52 2 a2 rs.length c2 (flat encR rs) :: rowsR rs :: [old H0]) hnok (by omega) (h.ordt [1, 2, 3] 4 (by decide) (by decide)) (fun _ ms a4 c4 qb2 H13 hms h => ⟨_, _, _, _, _, rfl, fun Jn5 hJ5 => ?_⟩) fun hf => absurd (openE_in hrange (by omega)) hf
    obtain ⟨hms1, hms2⟩ := recs_short hnok hms
    rw [hall, ← hrs] at hms
    have hml : ms.length = rs.length + 1 := by have := congrArg List.length hms; simpa using this
    have e9 : IntKind.i64.wrap ((rs.length : Int) + 1) = ((rs.length + 1 : Nat) : Int) := w64 (by omega) (by omega)
    rw [e9, hml]
    have hnc4 := h.sl_nc 1 rfl
    refine ⟨fun _ => ⟨by omega, by omega, by omega⟩, fun _ => ?_, fun hf => absurd (by simp) hf⟩
    have hmt : (ms.take rs.length).length = rs.length := by rw [List.length_take]; omega
    rw [show (Value.slice (slB a4 0 c4 2) rs.length c4) = .slice (slB a4 0 c4 2) (ms.take rs.length).length c4 by rw [hmt]]
    refine of_spec h (fun H h => by
      have := rdS.sbS (m := c4) (sz := 2) ((h.sl_rd 1 rfl).take (rs.length * 2))
      rwa [Go.Nm.flat_take encR_len] at this) (by omega) fun a5 c5 H14 h => ⟨_, _, _, rfl, ?_⟩
    refine of_spec h (fun H h => h.sl_rd 5 rfl) (by omega) fun a6 c6 H15 h => ⟨_, _, _, rfl, ?_⟩
    have q2 := Same_spec (c := c5) (d := c6) (h.sl_rd 1 rfl) (h.sl_rd 0 rfl) (fun r hr => rowsR_rd (h.ordt [4] 9 (by decide) (by decide)) r (List.mem_of_mem_take hr)) (rowsR_rd (h.ordt [7] 9 (by decide) (by decide))) (by omega) fun r hr => hms2 r (List.mem_of_mem_take hr)
    have e7 : (ms.take rs.length).map Ry.rc = rs.map Ry.rc := by
      rw [List.map_take, hms, List.take_left' (by simp)]
    rw [decide_eq_true e7] at q2
    have hmi : rs.length < ms.length := by omega
    have hlast : (ms[rs.length]).rc = ex7 := by
      have := congrArg (fun l : List Rc => l[rs.length]?) hms
      simpa [hmi] using this
    have hr4 := h.sl_rd 3 rfl
    refine ⟨_, q2, fun _ => ⟨by omega, by omega⟩, _, _, fun _ => hr4.some encR_len (by omega) hmi, _, fun _ => hr4.el0 encR_len hmi rfl, hJ5 _ _ ?_⟩
    unfold ReelCrash.r5
    refine ⟨?_, h.old_grow 8 rfl⟩
    have : ms[rs.length].kind = 7 := congrArg Rc.kind hlast
    rw [this]
    rfl
end
end Go.Proofs.Ytomdcdfcdeaabaa
