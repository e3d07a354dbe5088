/-
  DiskSync, DiskGone.
-/
import Derived.Test.YtomdcdfcdeaabaaD9
set_option linter.unusedVariables false
set_option linter.unusedSimpArgs false
namespace Go.Nm
open Go
theorem filesOf_filter (rows : DR) (f : Int) : filesOf (rows.filter fun r => decide (r.1 ≠ f)) = (filesOf rows).filter fun x => decide (x ≠ f) :=
  rising_eq (filesOf_rising _) ((filesOf_rising rows).filter _) fun x => by
    rw [mem_filesOf, List.mem_filter, mem_filesOf, List.mem_map, List.mem_map]
    simp only [List.mem_filter, decide_eq_true_eq]
    constructor
    · rintro ⟨r, ⟨h1, h2⟩, rfl⟩; exact ⟨⟨r, h1, rfl⟩, h2⟩
    · rintro ⟨⟨r, h1, rfl⟩, h2⟩; exact ⟨r, ⟨h1, h2⟩, rfl⟩
theorem filter_none {rows : DR} {f : Int} (h : bytesOf f rows = []) : (rows.filter fun r => decide (r.1 ≠ f)) = rows := by
  rw [List.filter_eq_self]
  intro r hr
  simp only [decide_eq_true_eq]
  intro e
  exact absurd h (bytesOf_mem.2 (List.mem_map.2 ⟨r, hr, e⟩))
theorem crash_all (rows : DR) (keep : Int) : crashR rows rows.length keep = rows := by
  unfold crashR; exact List.take_of_length_le (by omega)
abbrev dropF (rows : DR) (f : Int) : DR := rows.filter fun r => decide (r.1 ≠ f)
end Go.Nm
namespace Go.Proofs.Ytomdcdfcdeaabaa
open Go Go.Nm Go.Proofs

section
variable {H0 H : Heap} {ca ma : Option Addr} {cc mc : Nat} {calls more : List CD} {F : List Assn} {K : Value → Heap → Prop}

set_option maxHeartbeats 800000 in
theorem DiskSync_true {keep : Int} (hlen0 : calls.length ≤ maxLen) (hc : rdS H0 ca (flat encC calls)) (hq : ∀ x ∈ calls, CallOk H0 x)
    (hlen1 : more.length ≤ maxLen) (hm : rdS H0 ma (flat encC more)) (hqm : ∀ x ∈ more, CallOk H0 x) (hk : wf64 keep) :
    CallF Try.prog 5 #[.slice ca calls.length cc, .slice ma more.length mc, I64 keep] H0 fun v H' => v = .bool true ∧ Grow H0 H' := by
  refine DiskSync.call ?_
  unfold DiskSync.code
  refine alive_spec (sat0 H0) fun H1 h => ⟨_, rfl, fun hc => (by cases hc), fun _ => ?_⟩
  refine ⟨_, Great_spec (h.old_rd 0 rfl hc) hlen0, _, fun _ => Great_spec (h.old_rd 0 rfl hm) hlen1, fun _ => ⟨rfl, h.old_grow 0 rfl⟩, fun hg => ?_⟩
  rw [Bool.or_eq_false_iff] at hg
  obtain ⟨hlen, hbig⟩ := great_no hg.1
  obtain ⟨hlenm, hbigm⟩ := great_no hg.2
  refine New_spec h fun db H2 h => ⟨_, rfl, fun hc => (by cases hc), fun _ => ?_⟩
  refine ⟨fun i H' => ∃ (k : Nat) (s : DR × Nat), i = k ∧ k ≤ calls.length ∧ s.2 ≤ s.1.length ∧ s.1.length ≤ 200 * k ∧ SatL H' [diskX db s.1 s.2, old H0], fun i _ => calls.length - i.toNat,
    ⟨0, ([], 0), rfl, Nat.zero_le _, Nat.le_refl _, Nat.le_refl _, h⟩, ?_⟩
  rintro i H4 ⟨k, ⟨rows, syn⟩, rfl, hk1, hs, hsl, h⟩
  simp only at hs hsl h
  unfold DiskSync.l5
  refine ⟨fun hc1 => ?_, fun hc1 => ?_⟩
  · have hlt : k < calls.length := by have := of_decide_eq_true hc1; omega
    refine h.al fun rb _ h => ?_
    have h := (refX_shut (rows := []) (syn := 0) ((h.sl_nil 105 2).ordt [1, 0, 2, 3] 4 (by decide) (by decide))).ordt [1, 0, 2] 3 (by decide) (by decide)
    have hr := h.old_rd 2 rfl hc
    have hx := hq _ (List.getElem_mem hlt)
    have hxb := hbig _ (List.getElem_mem hlt)
    refine ⟨⟨by omega, by omega⟩, _, _, hr.some encC_len (by omega) hlt, _, _, _, _, _, _, hr.els encC_len hlt, ?_⟩
    generalize calls[k] = x at *
    have hl2 := doD_len (rows, syn) x
    refine Do_spec (s := (rows, syn)) (s2 := ([], 0)) (F := [old H0]) hx.2 (by omega) (by simp only; omega) (by simp only [List.length_nil]; omega) (Nat.le_refl _) (fun H' h' => h'.old_rd 0 rfl hx.1) h fun r H5 hr h => ⟨_, rfl, ?_⟩
    rw [w64 (x := (k : Int) + 1) (by omega) (by omega)]
    exact ⟨⟨k + 1, doD (rows, syn) x, rfl, hlt, doD_syn (s := (rows, syn)) hs x, by simp only at hl2; omega, h.ordt [0, 2] 3 (by decide) (by decide)⟩, by simp only [Int.toNat_natCast]; omega⟩
  refine Sync_spec h fun H5 h => ⟨rfl, ?_⟩
  refine Clone_spec (by omega) h fun d1 H6 h => ⟨_, rfl, fun hf => (by cases hf), fun _ => ?_⟩
  refine Size_spec (db := db) (F := [diskX d1 rows rows.length, old H0]) (by omega) (h.ordt [1, 0, 2] 3 (by decide) (by decide)) fun H7 h => ⟨_, rfl, ?_⟩
  refine ⟨fun i H' => ∃ (q : Nat) (s : DR × Nat), i = q ∧ q ≤ more.length ∧ s.2 ≤ s.1.length ∧ s.1.length ≤ rows.length + 200 * q ∧ (∃ X, s.1 = rows ++ X) ∧ rows.length ≤ s.2 ∧ SatL H' [diskX db s.1 s.2, diskX d1 rows rows.length, old H0], fun i _ => more.length - i.toNat,
    ⟨0, (rows, rows.length), rfl, Nat.zero_le _, Nat.le_refl _, Nat.le_refl _, ⟨[], by simp⟩, Nat.le_refl _, h⟩, ?_⟩
  rintro i H8 ⟨q, s, rfl, hq1, hs2, hsl2, hX, hsy, h⟩
  unfold DiskSync.l4
  refine ⟨fun hc1 => ?_, fun hc1 => ?_⟩
  · have hlt : q < more.length := by have := of_decide_eq_true hc1; omega
    have hr := h.old_rd 2 rfl hm
    have hx := hqm _ (List.getElem_mem hlt)
    have hxb := hbigm _ (List.getElem_mem hlt)
    refine ⟨⟨by omega, by omega⟩, _, _, hr.some encC_len (by omega) hlt, _, hr.el0 encC_len hlt rfl, ?_⟩
    intro Jn hJ
    refine ⟨fun hc2 => ?_, fun hc2 => ?_⟩
    · have hw : more[q].what ≠ 2 := by simpa using hc2
      refine h.al fun rb _ h => ?_
      have h := (refX_shut (rows := []) (syn := 0) ((h.sl_nil 105 2).ordt [1, 0, 2, 3, 4] 5 (by decide) (by decide))).ordt [1, 0, 2, 3] 4 (by decide) (by decide)
      have hr := h.old_rd 3 rfl hm
      refine ⟨⟨by omega, by omega⟩, _, _, hr.some encC_len (by omega) hlt, _, _, _, _, _, _, hr.els encC_len hlt, ?_⟩
      generalize more[q] = x at *
      have hl2 := doD_len s x
      refine Do_spec (s2 := ([], 0)) (F := [diskX d1 rows rows.length, old H0]) hx.2 (by omega) (by omega) (by simp only [List.length_nil]; omega) (Nat.le_refl _) (fun H' h' => h'.old_rd 1 rfl hx.1) h fun r H9 hr h => ⟨_, rfl, hJ _ ?_⟩
      unfold DiskSync.r1
      rw [w64 (x := (q : Int) + 1) (by omega) (by omega)]
      obtain ⟨k1, k2⟩ := doD_keeps hX hsy hs2 hw
      exact ⟨⟨q + 1, doD s x, rfl, hlt, doD_syn hs2 x, by omega, k1, k2, h.ordt [0, 2, 3] 4 (by decide) (by decide)⟩, by simp only [Int.toNat_natCast]; omega⟩
    · refine hJ _ ?_
      unfold DiskSync.r1
      rw [w64 (x := (q : Int) + 1) (by omega) (by omega)]
      exact ⟨⟨q + 1, s, rfl, hlt, hs2, by omega, hX, hsy, h⟩, by simp only [Int.toNat_natCast]; omega⟩
  refine Crash_spec hk (by omega) h fun H9 h => ⟨rfl, ?_⟩
  obtain ⟨X, hX⟩ := crash_keeps hX hsy hs2 keep
  have hcl := crashR_le s.1 s.2 keep
  generalize crashR s.1 s.2 keep = R at *
  subst hX
  refine Files_spec (db := d1) (rows := rows) (F := [diskX db (rows ++ X) (rows ++ X).length, old H0]) (by omega) (h.ordt [1, 0, 2] 3 (by decide) (by decide)) fun la lc H10 h => ⟨_, _, _, rfl, ?_⟩
  have hfl := filesOf_length_le rows
  refine ⟨fun i H' => ∃ j : Nat, i = j ∧ j ≤ (filesOf rows).length ∧ SatL H' [slA 3 1 la (filesOf rows).length lc ((filesOf rows).map I64), diskX d1 rows rows.length, diskX db (rows ++ X) (rows ++ X).length, old H0], fun i _ => (filesOf rows).length - i.toNat,
    ⟨0, rfl, Nat.zero_le _, h⟩, ?_⟩
  rintro i H11 ⟨j, rfl, hj, h⟩
  unfold DiskSync.l3
  refine ⟨fun hc2 => ?_, fun hc2 => ?_⟩
  · have hlt : j < (filesOf rows).length := by have := of_decide_eq_true hc2; omega
    have hr := (h.sl_rd 0 rfl).at (j := j) hlt
    refine ⟨⟨by omega, by omega⟩, _, _, hr.1, _, hr.2, ?_⟩
    obtain ⟨f, hf⟩ : ∃ f, (filesOf rows)[j] = f := ⟨_, rfl⟩
    have hne : bytesOf f rows ≠ [] := bytesOf_mem.2 (mem_filesOf.1 (by rw [← hf]; exact List.getElem_mem hlt))
    rw [hf]
    have hbA := bytesOf_length_le f rows
    have hbX := bytesOf_length_le f (rows ++ X)
    have eB := bytesOf_append f rows X
    refine Read_spec' (f := f) (F := [slA 3 1 la (filesOf rows).length lc ((filesOf rows).map I64), diskX db (rows ++ X) (rows ++ X).length, old H0]) (by omega) (h.ordt [1, 0, 2, 3] 4 (by decide) (by decide)) fun a1 c1 H12 h => ⟨_, _, _, _, rfl, ?_⟩
    have hr := (h.sl_rd 2 rfl).at (j := j) hlt
    rw [hf] at hr
    refine ⟨⟨by omega, by omega⟩, _, _, hr.1, _, hr.2, ?_⟩
    refine Read_spec' (f := f) (F := [slA 5 1 a1 (bytesOf f rows).length c1 ((bytesOf f rows).map U8), diskX d1 rows rows.length, slA 3 1 la (filesOf rows).length lc ((filesOf rows).map I64), old H0]) (by omega) (h.ordt [3, 0, 1, 2, 4] 5 (by decide) (by decide)) fun a2 c2 H13 h => ⟨_, _, _, _, rfl, ?_⟩
    have hne2 : bytesOf f (rows ++ X) ≠ [] := by rw [eB]; simp [hne]
    have lB : (bytesOf f (rows ++ X)).length = (bytesOf f rows).length + (bytesOf f X).length := by rw [eB, List.length_append]
    have n1 := h.sl_nc 0 rfl
    have p1 := rd_pre (n := (bytesOf f rows).length) h 0 rfl
    have q1 := same_pre (d := c1) (c := c2) rfl (by omega) (by rw [eB, List.take_left]) p1 (h.sl_rd 2 rfl) (by omega)
    rw [if_neg hne, if_neg hne2]
    refine ⟨fun _ => ⟨by omega, by omega, by omega⟩, _, fun _ => q1, fun hf2 => ?_, fun _ => ?_⟩
    · exfalso
      simp only [Bool.or_eq_true, decide_eq_true_eq, Bool.not_true, Bool.false_eq_true, or_false, Bool.not_eq_true', decide_eq_false_iff_not, not_true_eq_false, false_or] at hf2
      omega
    · rw [w64 (x := (j : Int) + 1) (by omega) (by omega)]
      exact ⟨⟨j + 1, rfl, hlt, h.ordt [4, 3, 1, 5] 6 (by decide) (by decide)⟩, by simp only [Int.toNat_natCast]; omega⟩
  · intro Jn hJ
    refine Size_spec (db := d1) (rows := rows) (syn := rows.length) (F := [old H0]) (by omega) (h.ordt [1, 3] 4 (by decide) (by decide)) fun H12 h => ⟨_, rfl, fun _ => ?_, fun hf => absurd (decide_eq_true rfl) hf⟩
    refine Pending_spec (by omega) h fun H13 h => ⟨_, rfl, hJ _ _ ?_⟩
    unfold DiskSync.r2
    rw [decide_eq_true (by omega)]
    exact ⟨rfl, h.old_grow 1 rfl⟩

set_option maxHeartbeats 800000 in
theorem DiskGone_true {file keep : Int} (hlen0 : calls.length ≤ maxLen) (hc : rdS H0 ca (flat encC calls)) (hq : ∀ x ∈ calls, CallOk H0 x) (hk : wf64 keep) :
    CallF Try.prog 6 #[.slice ca calls.length cc, I64 file, I64 keep] H0 fun v H' => v = .bool true ∧ Grow H0 H' := by
  refine DiskGone.call ?_
  unfold DiskGone.code
  refine alive_spec (sat0 H0) fun H1 h => ⟨_, rfl, fun hc => (by cases hc), fun _ => ?_⟩
  refine ⟨_, Great_spec (h.old_rd 0 rfl hc) hlen0, fun _ => ⟨rfl, h.old_grow 0 rfl⟩, fun hg => ?_⟩
  obtain ⟨hlen, hbig⟩ := great_no hg
  refine New_spec h fun db H2 h => ⟨_, rfl, fun hc => (by cases hc), fun _ => ?_⟩
  refine ⟨fun i H' => ∃ (k : Nat) (s : DR × Nat), i = k ∧ k ≤ calls.length ∧ s.2 ≤ s.1.length ∧ s.1.length ≤ 200 * k ∧ SatL H' [diskX db s.1 s.2, old H0], fun i _ => calls.length - i.toNat,
    ⟨0, ([], 0), rfl, Nat.zero_le _, Nat.le_refl _, Nat.le_refl _, h⟩, ?_⟩
  rintro i H4 ⟨k, ⟨rows, syn⟩, rfl, hk1, hs, hsl, h⟩
  simp only at hs hsl h
  unfold DiskGone.l3
  refine ⟨fun hc1 => ?_, fun hc1 => ?_⟩
  · have hlt : k < calls.length := by have := of_decide_eq_true hc1; omega
    refine h.al fun rb _ h => ?_
    have h := (refX_shut (rows := []) (syn := 0) ((h.sl_nil 105 2).ordt [1, 0, 2, 3] 4 (by decide) (by decide))).ordt [1, 0, 2] 3 (by decide) (by decide)
    have hr := h.old_rd 2 rfl hc
    have hx := hq _ (List.getElem_mem hlt)
    have hxb := hbig _ (List.getElem_mem hlt)
    refine ⟨⟨by omega, by omega⟩, _, _, hr.some encC_len (by omega) hlt, _, _, _, _, _, _, hr.els encC_len hlt, ?_⟩
    generalize calls[k] = x at *
    have hl2 := doD_len (rows, syn) x
    refine Do_spec (s := (rows, syn)) (s2 := ([], 0)) (F := [old H0]) hx.2 (by omega) (by simp only; omega) (by simp only [List.length_nil]; omega) (Nat.le_refl _) (fun H' h' => h'.old_rd 0 rfl hx.1) h fun r H5 hr h => ⟨_, rfl, ?_⟩
    rw [w64 (x := (k : Int) + 1) (by omega) (by omega)]
    exact ⟨⟨k + 1, doD (rows, syn) x, rfl, hlt, doD_syn (s := (rows, syn)) hs x, by simp only at hl2; omega, h.ordt [0, 2] 3 (by decide) (by decide)⟩, by simp only [Int.toNat_natCast]; omega⟩
  refine Sync_spec h fun H5 h => ⟨rfl, ?_⟩
  refine Clone_spec (by omega) h fun d1 H6 h => ⟨_, rfl, fun hf => (by cases hf), fun _ => ?_⟩
  refine Read_spec' (db := db) (f := file) (F := [diskX d1 rows rows.length, old H0]) (by omega) (h.ordt [1, 0, 2] 3 (by decide) (by decide)) fun a0 c0 H7 h => ⟨_, _, _, _, rfl, ?_⟩
  have hRl : (dropF rows file).length ≤ rows.length := List.length_filter_le _ _
  have hfl := filesOf_length_le rows
  have tail : ∀ H', SatL H' (diskX db (dropF rows file) (dropF rows file).length :: diskX d1 rows rows.length :: [old H0]) →
      CallF Try.prog 22 #[.pointer (some ⟨db, 0, none⟩), I64 keep] H' fun u7 H_9 => u7 = (.tuple #[]) ∧
      CallF Try.prog 18 #[.pointer (some ⟨db, 0, none⟩), I64 file] H_9 fun u8 H_10 => ∃ ra1 : Option Addr, ∃ rn1 : Nat, ∃ rc1 : Nat, ∃ r7 : Int, u8 = (.tuple #[(.slice ra1 rn1 rc1), I64 r7]) ∧
        r7 = 23 ∧ SatL H_10 (diskX db (dropF rows file) (dropF rows file).length :: diskX d1 rows rows.length :: [old H0]) := by
    intro H' h
    refine Crash_spec hk (by omega) h fun H9 h => ⟨rfl, ?_⟩
    rw [crash_all] at h
    refine Read_spec' (f := file) (by omega) h fun a2 c2 H10 h => ⟨_, _, _, _, rfl, ?_, h.tl⟩
    rw [bytesOf_filter, if_pos rfl, if_pos rfl]
  have last : ∀ H_10 K', SatL H_10 (diskX db (dropF rows file) (dropF rows file).length :: diskX d1 rows rows.length :: [old H0]) → (∀ v H', v = .bool true → Grow H0 H' → K' v H') →
      CallF Try.prog 24 #[.pointer (some ⟨d1, 0, none⟩)] H_10 fun u9 H_11 => ∃ ra2 : Option Addr, ∃ rn2 : Nat, ∃ rc2 : Nat, u9 = (.slice ra2 rn2 rc2) ∧
        ∃ (Inv1 : Int → Int → Heap → Prop) (mu1 : Int → Int → Heap → Nat), Inv1 0 0 H_11 ∧ ∀ (left : Int) (i1 : Int), ∀ H_12 : Heap, Inv1 left i1 H_12 → DiskGone.l2 file K' false (some ⟨db, 0, none⟩) (some ⟨d1, 0, none⟩) ra2 rn2 Inv1 mu1 left i1 H_12 := by
    intro H_10 K' h hK'
    refine Files_spec (db := d1) (rows := rows) (F := [diskX db (dropF rows file) (dropF rows file).length, old H0]) (by omega) (h.ordt [1, 0, 2] 3 (by decide) (by decide)) fun la lc H11 h => ⟨_, _, _, rfl, ?_⟩
    have hcl : ∀ j, (((filesOf rows).take j).filter fun x => decide (x ≠ file)).length ≤ (filesOf rows).length := fun j => by
      have h1 := List.length_filter_le (fun x : Int => decide (x ≠ file)) ((filesOf rows).take j)
      rw [List.length_take] at h1; omega
    refine ⟨fun left i H' => ∃ j : Nat, i = j ∧ j ≤ (filesOf rows).length ∧ left = ((((filesOf rows).take j).filter fun x => decide (x ≠ file)).length : Int) ∧
        SatL H' [slA 3 1 la (filesOf rows).length lc ((filesOf rows).map I64), diskX d1 rows rows.length, diskX db (dropF rows file) (dropF rows file).length, old H0], fun _ i _ => (filesOf rows).length - i.toNat,
      ⟨0, rfl, Nat.zero_le _, rfl, h⟩, ?_⟩
    rintro left i H12 ⟨j, rfl, hj, rfl, h⟩
    unfold DiskGone.l2
    refine ⟨fun hc2 => ?_, fun hc2 => ?_⟩
    · have hlt : j < (filesOf rows).length := by have := of_decide_eq_true hc2; omega
      intro Jn hJ
      have hr := (h.sl_rd 0 rfl).at (j := j) hlt
      refine ⟨⟨by omega, by omega⟩, _, _, hr.1, _, hr.2, ?_⟩
      obtain ⟨f, hf⟩ : ∃ f, (filesOf rows)[j] = f := ⟨_, rfl⟩
      have hne : bytesOf f rows ≠ [] := bytesOf_mem.2 (mem_filesOf.1 (by rw [← hf]; exact List.getElem_mem hlt))
      have et : (filesOf rows).take (j + 1) = (filesOf rows).take j ++ [f] := by rw [List.take_succ_eq_append_getElem hlt, hf]
      rw [hf] at hr ⊢
      have hbA := bytesOf_length_le f rows
      have hcj := hcl j
      refine ⟨fun hc3 => hJ _ _ ?_, fun hc3 => ?_⟩
      · have e : f = file := of_decide_eq_true hc3
        unfold DiskGone.r1
        rw [w64 (x := (j : Int) + 1) (by omega) (by omega)]
        exact ⟨⟨j + 1, rfl, hlt, by rw [et, List.filter_append]; simp [e], h⟩, by simp only [Int.toNat_natCast]; omega⟩
      · have e : ¬ f = file := of_decide_eq_false hc3
        have eb : bytesOf f (dropF rows file) = bytesOf f rows := by rw [bytesOf_filter, if_neg e]
        refine ⟨⟨by omega, by omega⟩, _, _, hr.1, _, hr.2, ?_⟩
        refine Read_spec' (f := f) (F := [slA 3 1 la (filesOf rows).length lc ((filesOf rows).map I64), diskX db (dropF rows file) (dropF rows file).length, old H0]) (by omega) (h.ordt [1, 0, 2, 3] 4 (by decide) (by decide)) fun a1 c1 H13 h => ⟨_, _, _, _, rfl, ?_⟩
        have hr := (h.sl_rd 2 rfl).at (j := j) hlt
        rw [hf] at hr
        refine ⟨⟨by omega, by omega⟩, _, _, hr.1, _, hr.2, ?_⟩
        refine Read_spec' (f := f) (F := [slA 5 1 a1 (bytesOf f rows).length c1 ((bytesOf f rows).map U8), diskX d1 rows rows.length, slA 3 1 la (filesOf rows).length lc ((filesOf rows).map I64), old H0]) (by omega) (h.ordt [3, 0, 1, 2, 4] 5 (by decide) (by decide)) fun a2 c2 H14 h => ⟨_, _, _, _, rfl, ?_⟩
        rw [eb] at h ⊢
        rw [if_neg hne]
        refine ⟨_, fun _ => SameBytes_spec (h.sl_rd 2 rfl) (h.sl_rd 0 rfl) (by omega), fun hf2 => (by simp at hf2), fun _ => hJ _ _ ?_⟩
        unfold DiskGone.r1
        rw [w64 (x := (j : Int) + 1) (by omega) (by omega), w64 (by omega) (by omega)]
        exact ⟨⟨j + 1, rfl, hlt, by rw [et, List.filter_append]; simp [e], h.ordt [4, 3, 1, 5] 6 (by decide) (by decide)⟩, by simp only [Int.toNat_natCast]; omega⟩
    · obtain rfl : j = (filesOf rows).length := by have := of_decide_eq_false hc2; omega
      refine Files_spec (db := db) (rows := dropF rows file) (F := [diskX d1 rows rows.length, slA 3 1 la (filesOf rows).length lc ((filesOf rows).map I64), old H0]) (by omega) (h.ordt [2, 1, 0, 3] 4 (by decide) (by decide)) fun ma2 mc2 H13 h => ⟨_, _, _, rfl, hK' _ _ ?_ (h.old_grow 4 rfl)⟩
      rw [List.take_length, filesOf_filter, decide_eq_true rfl]
  have both : ∀ H' (r5 r6 : Int), r5 = r6 → SatL H' (diskX db (dropF rows file) (dropF rows file).length :: diskX d1 rows rows.length :: [old H0]) →
      CallF Try.prog 22 #[.pointer (some ⟨db, 0, none⟩), I64 keep] H' fun u7 H_9 => u7 = (.tuple #[]) ∧
      CallF Try.prog 18 #[.pointer (some ⟨db, 0, none⟩), I64 file] H_9 fun u8 H_10 => ∃ ra1 : Option Addr, ∃ rn1 : Nat, ∃ rc1 : Nat, ∃ r7 : Int, u8 = (.tuple #[(.slice ra1 rn1 rc1), I64 r7]) ∧
        ((((!decide (r5 = r6)) || (!decide (r7 = 23)))) = true → (fun v H' => v = Value.bool true ∧ Grow H0 H') (.bool false) H_10) ∧
        ((((!decide (r5 = r6)) || (!decide (r7 = 23)))) = false →
          CallF Try.prog 24 #[.pointer (some ⟨d1, 0, none⟩)] H_10 fun u9 H_11 => ∃ ra2 : Option Addr, ∃ rn2 : Nat, ∃ rc2 : Nat, u9 = (.slice ra2 rn2 rc2) ∧
          ∃ (Inv1 : Int → Int → Heap → Prop) (mu1 : Int → Int → Heap → Nat), Inv1 0 0 H_11 ∧ ∀ (left : Int) (i1 : Int), ∀ H_12 : Heap, Inv1 left i1 H_12 → DiskGone.l2 file (fun v H' => v = Value.bool true ∧ Grow H0 H') false (some ⟨db, 0, none⟩) (some ⟨d1, 0, none⟩) ra2 rn2 Inv1 mu1 left i1 H_12) := by
    intro H' r5 r6 e h
    refine (tail H' h).mono fun v H9 hv => ⟨hv.1, hv.2.mono fun v2 H10 hv2 => ?_⟩
    obtain ⟨ra1, rn1, rc1, r7, rfl, rfl, h2⟩ := hv2
    exact ⟨ra1, rn1, rc1, 23, rfl, fun hf => by simp [e] at hf, fun _ => last H10 _ h2 fun v H' h1 h2 => ⟨h1, h2⟩⟩
  refine Delete_spec (f := file) (db := db) (rows := rows) (F := [slA 5 1 a0 (bytesOf file rows).length c0 ((bytesOf file rows).map U8), diskX d1 rows rows.length, old H0]) (h.ordt [1, 0, 2, 3] 4 (by decide) (by decide)) (fun hz H8 h => ⟨_, rfl, ?_⟩) (fun _ hf => absurd hf (by omega)) fun hz _ H8 h => ⟨_, rfl, ?_⟩
  · have e : dropF rows file = rows := filter_none hz
    rw [if_pos hz]
    have h2 := h.ordt [0, 2, 3] 4 (by decide) (by decide)
    refine both _ 23 23 rfl ?_
    rw [e]; exact h2
  · rw [if_neg hz]
    exact both _ 0 0 rfl (h.ordt [0, 2, 3] 4 (by decide) (by decide))
end
end Go.Proofs.Ytomdcdfcdeaabaa
