/-
  A reel: the document's appending, both sides' dropping and opening.
-/
import Derived.Test.YtomdcdfcdeaabaaRL
set_option linter.unusedVariables false
set_option linter.unusedSimpArgs false
namespace Go.Nm
open Go
def allM (rows : DR) : List Rc := (filesOf rows).flatMap fun f => (scanM (bytesOf f rows)).1
def segOf (rows : DR) : Int := match (filesOf rows)[(filesOf rows).length - 1]? with
  | none => 0
  | some f => f + 1
def openE (most : Int) (rows : DR) : Int := if most < 64 ∨ 1048576 < most then 11 else if 2147483647 < segOf rows then 20 else 0
def dropR (below : Int) (rows : DR) : DR := rows.filter fun r => decide (below ≤ r.1)
theorem scanM_len {b : List Int} (hb : isBytes b) : (scanM b).1.length ≤ b.length := by
  obtain ⟨h1, h2, h3⟩ := scanM_ok (Nat.le_refl _) hb
  have h4 := congrArg List.length h3
  rw [List.length_take] at h4
  have : ∀ rs : List Rc, (∀ r ∈ rs, r.ok) → rs.length ≤ (rs.flatMap recB).length := by
    intro rs
    induction rs with
    | nil => intro _; simp
    | cons r rs ih =>
      intro h
      have e1 := recB_len (h r List.mem_cons_self)
      have e2 := ih fun x hx => h x (List.mem_cons_of_mem _ hx)
      rw [List.flatMap_cons, List.length_append, List.length_cons]
      omega
  have := this _ h1
  omega
theorem files_nodup (rows : DR) : (filesOf rows).Nodup := (filesOf_rising rows).imp fun h => by omega
theorem allM_len {rows : DR} (h : RowsOk rows) : (allM rows).length ≤ rows.length := by
  have h1 := sum_bytes rows (filesOf rows) (files_nodup rows) fun r hr => mem_filesOf.2 (List.mem_map.2 ⟨r, hr, rfl⟩)
  rw [← h1]
  unfold allM
  generalize filesOf rows = l
  induction l with
  | nil => simp
  | cons f l ih =>
    rw [List.flatMap_cons, List.length_append, List.map_cons, List.sum_cons]
    have := scanM_len (h.bytes f)
    omega
theorem flatMap_take_le {α β : Type} (f : α → List β) (l : List α) (j : Nat) : ((l.take j).flatMap f).length ≤ (l.flatMap f).length := by
  conv => rhs; rw [← List.take_append_drop j l, List.flatMap_append, List.length_append]
  omega
theorem flatMap_take_succ {α β : Type} (f : α → List β) {l : List α} {j : Nat} (h : j < l.length) : (l.take (j + 1)).flatMap f = (l.take j).flatMap f ++ f l[j] := by
  rw [List.take_succ_eq_append_getElem h, List.flatMap_append]
  simp
theorem segOf_cons {rows : DR} {n : Nat} (h : n + 1 = (filesOf rows).length) : ∃ f, (filesOf rows)[n]? = some f ∧ segOf rows = f + 1 ∧ f ∈ filesOf rows := by
  have hlt : n < (filesOf rows).length := by omega
  refine ⟨_, List.getElem?_eq_getElem hlt, ?_, List.getElem_mem hlt⟩
  unfold segOf
  rw [← h, Nat.add_sub_cancel, List.getElem?_eq_getElem hlt]
theorem segOf_nil {rows : DR} (h : (filesOf rows).length = 0) : segOf rows = 0 := by
  unfold segOf
  rw [List.length_eq_zero_iff.1 h]
  rfl
theorem RowsOk.file {rows : DR} (h : RowsOk rows) {f : Int} (hf : f ∈ filesOf rows) : 0 ≤ f ∧ f ≤ 2147483647 := by
  obtain ⟨r, hr, rfl⟩ := List.mem_map.1 (mem_filesOf.1 hf)
  exact (h r hr).1
theorem segOf_in {rows : DR} (h : RowsOk rows) : 0 ≤ segOf rows ∧ segOf rows ≤ 2147483648 := by
  cases hn : (filesOf rows).length with
  | zero => rw [segOf_nil hn]; omega
  | succ n =>
    obtain ⟨f, h1, h2, h3⟩ := segOf_cons hn.symm
    have := h.file h3
    omega
/-- The rows behind the deletions of a beginning of the files. -/
def dropJ (below : Int) (rows : DR) (j : Nat) : DR := rows.filter fun r => !(decide (r.1 ∈ (filesOf rows).take j) && decide (r.1 < below))
theorem dropJ_zero (below : Int) (rows : DR) : dropJ below rows 0 = rows := by
  unfold dropJ
  simp
theorem dropJ_all (below : Int) (rows : DR) : dropJ below rows (filesOf rows).length = dropR below rows := by
  unfold dropJ dropR
  refine List.filter_congr fun r hr => ?_
  rw [List.take_length, decide_eq_true (mem_filesOf.2 (List.mem_map.2 ⟨r, hr, rfl⟩)), Bool.true_and, ← decide_not]
  exact decide_eq_decide.2 (by omega)
theorem dropJ_succ {below : Int} {rows : DR} {j : Nat} (h : j < (filesOf rows).length) :
    dropJ below rows (j + 1) = if (filesOf rows)[j] < below then (dropJ below rows j).filter (fun r => decide (r.1 ≠ (filesOf rows)[j])) else dropJ below rows j := by
  have hm : ∀ x, decide (x ∈ (filesOf rows).take (j + 1)) = (decide (x ∈ (filesOf rows).take j) || decide (x = (filesOf rows)[j])) := by
    intro x
    rw [← Bool.decide_or]
    refine decide_eq_decide.2 ?_
    rw [List.take_succ_eq_append_getElem h, List.mem_append, List.mem_singleton]
  split
  · rename_i hlt
    unfold dropJ
    rw [List.filter_filter]
    refine List.filter_congr fun r hr => ?_
    rw [hm]
    by_cases e : r.1 = (filesOf rows)[j]
    · rw [decide_eq_true e, show decide (r.1 ≠ (filesOf rows)[j]) = false from decide_eq_false fun hh => hh e, show decide (r.1 < below) = true from decide_eq_true (by rw [e]; exact hlt)]
      simp
    · rw [decide_eq_false e, show decide (r.1 ≠ (filesOf rows)[j]) = true from decide_eq_true e, Bool.or_false, Bool.true_and]
  · rename_i hge
    unfold dropJ
    refine List.filter_congr fun r hr => ?_
    rw [hm]
    by_cases e : r.1 = (filesOf rows)[j]
    · rw [show decide (r.1 < below) = false from decide_eq_false (by rw [e]; exact hge), Bool.and_false, Bool.and_false]
    · rw [decide_eq_false e, Bool.or_false]
theorem dropJ_len (below : Int) (rows : DR) (j : Nat) : (dropJ below rows j).length ≤ rows.length := List.length_filter_le _ _
end Go.Nm
namespace Go.Proofs.Ytomdcdfcdeaabaa
open Go Go.Nm Go.Proofs
section
variable {F L : List Assn} {H : Heap} {K : Value → Heap → Prop} {rb db pb : Nat} {rows : DR} {syn : Nat} {s : RL}

theorem RAppendR_spec {a : Option Addr} {c : Nat} {d : List Int} {kind : Int} (hs : s.ok) (hB : rows.length ≤ 549755813888) (h : SatL H (rreelA rb db s :: refX db rows syn :: F))
    (ha : ∀ H, SatL H F → rdS H a (d.map U8)) (hb : isBytes d) (hl : d.length ≤ 1099511627776)
    (k : ∀ H', SatL H' (rreelA rb db (appS rows s ⟨kind, d⟩) :: refX db (appRows rows s ⟨kind, d⟩) syn :: F) →
      K (.tuple #[.int .i64 (appN rows s ⟨kind, d⟩), .int .i64 (appE rows s ⟨kind, d⟩)]) H') :
    CallF Try.prog 78 #[.pointer (some ⟨rb, 0, none⟩), .int .i64 kind, .slice a d.length c] H K := by
  refine R11_Reel_Append.call ?_
  unfold R11_Reel_Append.code
  have hs1 := hs.seg
  have hs2 := hs.most
  have hs3 := hs.next
  refine RBytes_spec h (fun H h => ha H h.tl.tl) hb hl (fun a2 c2 H2 he h => ⟨_, _, _, _, rfl, (fun hf => by cases hf), fun _ => ?_⟩) fun H2 he h => ⟨_, _, _, _, rfl, fun _ => ?_, fun hf => by simp [he] at hf⟩
  · have hrl := recB_len (bytesE_ok hb he)
    have hrb := recB_bytes (bytesE_ok hb he)
    have hdl : d.length ≤ 262144 := (bytesE_ok hb he).len
    dsimp only at hrl
    obtain ⟨r, hr⟩ : ∃ r : Rc, (⟨kind, d⟩ : Rc) = r := ⟨_, rfl⟩
    have he' : bytesE r.kind r.data.length = 0 := by rw [← hr]; exact he
    rw [hr] at h hrl hrb k ⊢
    have hfl := bytesOf_length_le s.seg rows
    refine ⟨_, h.rd 1 rfl _, _, h.rd 1 rfl _, ?_⟩
    refine RRead_spec (F := slA 5 1 a2 (recB r).length c2 ((recB r).map U8) :: rreelA rb db s :: F) (by omega) (h.ordt [2, 0, 1] 3 (by decide) (by decide)) fun a3 c3 H3 h => ⟨_, _, _, rfl, fun _ => trivial, _, fun _ => h.rd 3 rfl _, fun Jn hJ => ?_⟩
    have ew : IntKind.i64.wrap (((bytesOf s.seg rows).length : Int) + ((recB r).length : Int)) = (((bytesOf s.seg rows).length + (recB r).length : Nat) : Int) := by rw [w64 (by omega) (by omega)]; omega
    have et : (decide ((0 : Int) < ((bytesOf s.seg rows).length : Int)) && decide (s.most < (((bytesOf s.seg rows).length + (recB r).length : Nat) : Int))) = turns rows s (recB r).length := by
      unfold turns
      congr 1
      exact decide_eq_decide.2 (by omega)
    rw [ew, et]
    have hcore : ∀ g H', 0 ≤ g ∧ g ≤ 2147483647 → appE rows s r = 0 → appS rows s r = { s with seg := g, next := s.next + 1 } → SatL H' (rreelA rb db { s with seg := g } :: refX db rows syn :: slA 5 1 a2 (recB r).length c2 ((recB r).map U8) :: F) → R11_Reel_Append.r1 rb 0 K a2 (recB r).length c2 H' := by
      intro g H' hg e0 eS h
      unfold R11_Reel_Append.r1
      refine ⟨_, h.rd 0 rfl _, _, h.rd 0 rfl _, ?_⟩
      refine RAppend_spec (F := rreelA rb db { s with seg := g } :: slA 5 1 a2 (recB r).length c2 ((recB r).map U8) :: F) (by omega) (fun H h => h.sl_rd 1 rfl) (h.ordt [1, 0, 2] 3 (by decide) (by decide)) (fun hf => absurd hf (by dsimp only; omega)) fun _ H5 h => ⟨_, rfl, _, h.rd 1 rfl _, ?_⟩
      rw [w64 (x := (s.next : Int) + 1) (by omega) (by omega)]
      refine h.st 1 rfl rfl fun H6 h => ⟨_, h.rd 1 rfl _, ?_⟩
      have hk := k H6
      rw [show appN rows s r = s.next by unfold appN; rw [if_neg (by rw [e0]; decide)], e0, show appRows rows s r = rows ++ (recB r).map (fun b => (g, b)) by unfold appRows; rw [if_neg (by rw [e0]; decide), eS], eS] at hk
      have en : IntKind.i64.wrap (((s.next : Int) + 1) - 1) = s.next := by rw [w64 (by omega) (by omega)]; omega
      rw [en]
      exact hk (h.ordt [1, 0] 3 (by decide) (by decide))
    have e0 : appE rows s r = if turns rows s (recB r).length = true ∧ s.seg = 2147483647 then 20 else 0 := by unfold appE; rw [if_neg (by rw [he']; decide)]
    refine ⟨fun ht => ⟨_, h.rd 3 rfl _, fun hm => ?_, fun hm => ⟨_, h.rd 3 rfl _, ?_⟩⟩, fun ht => ?_⟩
    · have hm : s.seg = 2147483647 := by simpa using hm
      rw [if_pos ⟨ht, hm⟩] at e0
      have hk := k H3
      unfold appN appS appRows at hk
      rw [e0, if_pos (by decide), if_pos (by decide), if_pos (by decide)] at hk
      exact hk (h.ordt [3, 1] 4 (by decide) (by decide))
    · have hm : s.seg ≠ 2147483647 := by simpa using hm
      rw [if_neg (fun hh => hm hh.2)] at e0
      rw [w64 (x := s.seg + 1) (by omega) (by omega)]
      refine h.st 3 rfl rfl fun H6 h => hJ _ ?_
      exact hcore (s.seg + 1) _ (by omega) e0 (by unfold appS; rw [if_neg (by rw [e0]; decide), if_pos ht]) (h.ordt [3, 1, 2] 4 (by decide) (by decide))
    · have htf : turns rows s (recB r).length = false := ht
      rw [if_neg (fun hh => by rw [hh.1] at htf; cases htf)] at e0
      exact hJ _ (hcore s.seg _ hs1 e0 (by unfold appS; rw [if_neg (by rw [e0]; decide), htf]; rfl) (h.ordt [3, 1, 2] 4 (by decide) (by decide)))
  · have e0 : appE rows s ⟨kind, d⟩ = bytesE kind d.length := by unfold appE; dsimp only; rw [if_pos he]
    have hk := k H2
    unfold appN appS appRows at hk
    rw [e0, if_pos he, if_pos he, if_pos he] at hk
    exact hk h

theorem DropR_spec {below : Int} (hB : rows.length ≤ 1099511627776) (hs : syn ≤ rows.length) (h : SatL H (reelA rb db s :: diskX db rows syn :: F))
    (k1 : syn < rows.length → ∀ H', SatL H' (reelA rb db s :: diskX db rows syn :: F) → K (.int .i64 21) H')
    (k2 : ¬ syn < rows.length → ∀ H', SatL H' (reelA rb db s :: diskX db (dropR below rows) (dropR below rows).length :: F) → K (.int .i64 0) H') :
    CallF Try.prog 46 #[.pointer (some ⟨rb, 0, none⟩), .int .i64 below] H K := by
  refine reel_Drop.call ?_
  unfold reel_Drop.code
  refine ⟨_, h.rd 0 rfl _, ?_⟩
  refine Pending_spec (F := reelA rb db s :: F) hB (h.ordt [1, 0] 2 (by decide) (by decide)) fun H1 h => ⟨_, rfl, fun hx => ?_, fun hx => ?_⟩
  · have := of_decide_eq_true hx
    exact k1 (by omega) _ (h.ordt [1, 0] 2 (by decide) (by decide))
  · have hx := of_decide_eq_false hx
    have hsy : syn = rows.length := by omega
    refine ⟨_, h.rd 1 rfl _, ?_⟩
    refine Files_spec hB h fun fa fc H2 h => ⟨_, _, _, rfl, ?_⟩
    have hfl := filesOf_length_le rows
    refine ⟨fun i H' => ∃ j : Nat, i = j ∧ j ≤ (filesOf rows).length ∧ SatL H' (slA 3 1 fa (filesOf rows).length fc ((filesOf rows).map I64) :: diskX db (dropJ below rows j) (dropJ below rows j).length :: reelA rb db s :: F), fun i _ => (filesOf rows).length - i.toNat, ⟨0, rfl, Nat.zero_le _, ?_⟩, ?_⟩
    · rw [dropJ_zero, ← hsy]
      exact h
    rintro i H3 ⟨j, rfl, hj, h⟩
    unfold reel_Drop.l2
    refine ⟨fun hx => ?_, fun hx => ?_⟩
    · have hlt : j < (filesOf rows).length := by simpa using hx
      have hr := (h.sl_rd 0 rfl).at hlt
      refine ⟨⟨by omega, by omega⟩, _, _, hr.1, _, hr.2, fun Jn hJ => ?_⟩
      have hsucc := dropJ_succ (below := below) hlt
      have next : ∀ H', SatL H' (slA 3 1 fa (filesOf rows).length fc ((filesOf rows).map I64) :: diskX db (dropJ below rows (j + 1)) (dropJ below rows (j + 1)).length :: reelA rb db s :: F) → Jn H' := by
        intro H' h
        refine hJ _ ?_
        unfold reel_Drop.r1
        rw [w64 (x := (j : Int) + 1) (by omega) (by omega)]
        exact ⟨⟨j + 1, rfl, hlt, h⟩, by simp only [Int.toNat_natCast]; omega⟩
      refine ⟨fun hc => ⟨_, h.rd 2 rfl _, ?_⟩, fun hc => ?_⟩
      · have hc : (filesOf rows)[j] < below := of_decide_eq_true hc
        rw [if_pos hc] at hsucc
        refine Delete_spec (F := slA 3 1 fa (filesOf rows).length fc ((filesOf rows).map I64) :: reelA rb db s :: F) (h.ordt [1, 0, 2] 3 (by decide) (by decide)) (fun hz H4 h => ⟨_, rfl, next _ ?_⟩) (fun _ hf => absurd hf (Nat.lt_irrefl _)) fun hz _ H4 h => ⟨_, rfl, next _ ?_⟩
        · have e : (dropJ below rows j).filter (fun r => decide (r.1 ≠ (filesOf rows)[j])) = dropJ below rows j := by
            refine List.filter_eq_self.2 fun r hr => ?_
            have : ¬ r.1 = (filesOf rows)[j] := fun e => by
              have := bytesOf_mem.2 (List.mem_map.2 ⟨r, hr, e⟩)
              exact this hz
            simp [this]
          rw [hsucc, e]
          exact h.ordt [1, 0, 2] 3 (by decide) (by decide)
        · rw [hsucc]
          exact h.ordt [1, 0, 2] 3 (by decide) (by decide)
      · have hc : ¬ (filesOf rows)[j] < below := of_decide_eq_false hc
        rw [if_neg hc] at hsucc
        refine next _ ?_
        rw [hsucc]
        exact h
    · have hj2 : j = (filesOf rows).length := by simp at hx; omega
      subst hj2
      rw [dropJ_all] at h
      exact k2 (by omega) _ (h.ordt [2, 1] 3 (by decide) (by decide))
theorem RDropR_spec {below : Int} (hB : rows.length ≤ 1099511627776) (hs : syn ≤ rows.length) (h : SatL H (rreelA rb db s :: refX db rows syn :: F))
    (k1 : syn < rows.length → ∀ H', SatL H' (rreelA rb db s :: refX db rows syn :: F) → K (.int .i64 21) H')
    (k2 : ¬ syn < rows.length → ∀ H', SatL H' (rreelA rb db s :: refX db (dropR below rows) (dropR below rows).length :: F) → K (.int .i64 0) H') :
    CallF Try.prog 79 #[.pointer (some ⟨rb, 0, none⟩), .int .i64 below] H K := by
  refine R11_Reel_Drop.call ?_
  unfold R11_Reel_Drop.code
  refine ⟨_, h.rd 0 rfl _, ?_⟩
  obtain ⟨ra, rc, h1⟩ := refX_open (h.ordt [1, 0] 2 (by decide) (by decide))
  refine nn_some ⟨_, h1.rd 0 rfl _, _, h.rd 0 rfl _, nn_some ⟨_, _, _, h1.rd 0 rfl _, fun hx => ?_, fun hx => ?_⟩⟩
  · have := of_decide_eq_true hx
    exact k1 (by omega) _ h
  · have hx := of_decide_eq_false hx
    have hsy : syn = rows.length := by omega
    refine ⟨_, h.rd 0 rfl _, ?_⟩
    refine RFiles_spec (F := rreelA rb db s :: F) hB (h.ordt [1, 0] 2 (by decide) (by decide)) fun fa fc H2 h => ⟨_, _, _, rfl, ?_⟩
    have hfl := filesOf_length_le rows
    refine ⟨fun i H' => ∃ j : Nat, i = j ∧ j ≤ (filesOf rows).length ∧ SatL H' (slA 3 1 fa (filesOf rows).length fc ((filesOf rows).map I64) :: refX db (dropJ below rows j) (dropJ below rows j).length :: rreelA rb db s :: F), fun i _ => (filesOf rows).length - i.toNat, ⟨0, rfl, Nat.zero_le _, ?_⟩, ?_⟩
    · rw [dropJ_zero, ← hsy]
      exact h
    rintro i H3 ⟨j, rfl, hj, h⟩
    unfold R11_Reel_Drop.l2
    refine ⟨fun hx => ?_, fun hx => ?_⟩
    · have hlt : j < (filesOf rows).length := by simpa using hx
      have hr := (h.sl_rd 0 rfl).at hlt
      refine ⟨⟨by omega, by omega⟩, _, _, hr.1, _, hr.2, fun Jn hJ => ?_⟩
      have hsucc := dropJ_succ (below := below) hlt
      have hdl := dropJ_len below rows j
      have next : ∀ H', SatL H' (slA 3 1 fa (filesOf rows).length fc ((filesOf rows).map I64) :: refX db (dropJ below rows (j + 1)) (dropJ below rows (j + 1)).length :: rreelA rb db s :: F) → Jn H' := by
        intro H' h
        refine hJ _ ?_
        unfold R11_Reel_Drop.r1
        rw [w64 (x := (j : Int) + 1) (by omega) (by omega)]
        exact ⟨⟨j + 1, rfl, hlt, h⟩, by simp only [Int.toNat_natCast]; omega⟩
      refine ⟨fun hc => ⟨_, h.rd 2 rfl _, ⟨by omega, by omega⟩, _, _, hr.1, _, hr.2, ?_⟩, fun hc => ?_⟩
      · have hc : (filesOf rows)[j] < below := of_decide_eq_true hc
        rw [if_pos hc] at hsucc
        refine RDelete_spec (F := slA 3 1 fa (filesOf rows).length fc ((filesOf rows).map I64) :: rreelA rb db s :: F) (by omega) (Nat.le_refl _) (h.ordt [1, 0, 2] 3 (by decide) (by decide)) (fun hz H4 h => ⟨_, rfl, next _ ?_⟩) (fun _ hf => absurd hf (Nat.lt_irrefl _)) fun hz _ H4 h => ⟨_, rfl, next _ ?_⟩
        · have e : (dropJ below rows j).filter (fun r => decide (r.1 ≠ (filesOf rows)[j])) = dropJ below rows j := by
            refine List.filter_eq_self.2 fun r hr => ?_
            have : ¬ r.1 = (filesOf rows)[j] := fun e => by
              have := bytesOf_mem.2 (List.mem_map.2 ⟨r, hr, e⟩)
              exact this hz
            simp [this]
          rw [hsucc, e]
          exact h.ordt [1, 0, 2] 3 (by decide) (by decide)
        · rw [hsucc]
          exact h.ordt [1, 0, 2] 3 (by decide) (by decide)
      · have hc : ¬ (filesOf rows)[j] < below := of_decide_eq_false hc
        rw [if_neg hc] at hsucc
        refine next _ ?_
        rw [hsucc]
        exact h
    · have hj2 : j = (filesOf rows).length := by simp at hx; omega
      subst hj2
      rw [dropJ_all] at h
      exact k2 (by omega) _ (h.ordt [2, 1] 3 (by decide) (by decide))
end
end Go.Proofs.Ytomdcdfcdeaabaa
