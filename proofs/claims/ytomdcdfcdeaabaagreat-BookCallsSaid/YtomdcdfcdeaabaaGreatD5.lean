/-
  The document's disk, walked.
-/
import Derived.Test.YtomdcdfcdeaabaaGreatD4
set_option linter.unusedVariables false
set_option linter.unusedSimpArgs false
namespace Go.Nm
open Go
abbrev encB (r : Int × Int) : List Value := [.int .i64 r.1, .int .u8 r.2]
theorem encB_len (r : Int × Int) : (encB r).length = 2 := rfl
theorem setsL_map1 {enc : Int → Value} (l : List Int) (o : Nat) (v : Int) : setsL (l.map enc) o [enc v] = (l.set o v).map enc := by simp [setsL, List.map_set]
theorem swap_mid (P S : List Int) (a n : Int) : ((P ++ a :: n :: S).set P.length n).set (P.length + 1) a = P ++ n :: a :: S := by
  simp [List.set_append]
theorem bytesOf_snoc (f : Int) (rows : DR) {j : Nat} (hj : j < rows.length) : bytesOf f (rows.take (j + 1)) = if rows[j].1 = f then bytesOf f (rows.take j) ++ [rows[j].2] else bytesOf f (rows.take j) := by
  rw [List.take_succ_eq_append_getElem hj, bytesOf_append]
  by_cases e : rows[j].1 = f
  · rw [if_pos e]; congr 1; simp [bytesOf, e]
  · rw [if_neg e]; simp [bytesOf, e]
theorem filter_snoc (f : Int) (rows : DR) {j : Nat} (hj : j < rows.length) : (rows.take (j + 1)).filter (fun r => decide (r.1 ≠ f)) = if rows[j].1 ≠ f then (rows.take j).filter (fun r => decide (r.1 ≠ f)) ++ [rows[j]] else (rows.take j).filter (fun r => decide (r.1 ≠ f)) := by
  rw [List.take_succ_eq_append_getElem hj, List.filter_append]
  by_cases e : rows[j].1 = f <;> simp [e]
end Go.Nm
namespace Go.Proofs.YtomdcdfcdeaabaaGreat
open Go Go.Nm Go.Proofs

theorem sl28 : SlT Tryz.prog 28 108 2 16 := slT_of (by kernel_rfl)
/-- The document's disk. -/
def refX (rb : Nat) (rows : DR) (syn : Nat) : Assn := exS fun p : Option Addr × Nat => star [cellsA rb [.slice p.1 rows.length p.2, I64 syn] 30, slA 108 2 p.1 rows.length p.2 (flat encB rows)]

section
variable {rb : Nat} {rows : DR} {syn : Nat} {F L : List Assn} {H : Heap} {K : Value → Heap → Prop}

theorem refX_open (h : SatL H (refX rb rows syn :: F)) : ∃ a c, SatL H (cellsA rb [.slice a rows.length c, I64 syn] 30 :: slA 108 2 a rows.length c (flat encB rows) :: F) := by
  obtain ⟨p, h⟩ := satL_ex.1 h
  exact ⟨p.1, p.2, h.open⟩
theorem refX_shut {a : Option Addr} {c : Nat} (h : SatL H (cellsA rb [.slice a rows.length c, I64 syn] 30 :: slA 108 2 a rows.length c (flat encB rows) :: F)) : SatL H (refX rb rows syn :: F) :=
  satL_ex.2 ⟨(a, c), SatL.shut [_, _] h⟩

theorem RSync_spec (h : SatL H (refX rb rows syn :: F)) (k : ∀ H', SatL H' (refX rb rows rows.length :: F) → K (.tuple #[]) H') : CallF Tryz.prog 25 #[.pointer (some ⟨rb, 0, none⟩)] H K := by
  obtain ⟨a, c, h⟩ := refX_open h
  refine R10_Disk_Sync.call ?_
  unfold R10_Disk_Sync.code
  exact ⟨_, _, _, h.rd 0 rfl _, h.st 0 rfl rfl fun _ h => k _ (refX_shut h)⟩

theorem RAppend_spec {f : Int} {ba : Option Addr} {bc : Nat} {bs : List Int} (hB : rows.length + bs.length ≤ 1099511627776) (hl : ∀ H', SatL H' F → rdS H' ba (bs.map U8)) (h : SatL H (refX rb rows syn :: F))
    (k1 : f < 0 ∨ 2147483647 < f → ∀ H', SatL H' (refX rb rows syn :: F) → K (I64 11) H')
    (k2 : ¬ (f < 0 ∨ 2147483647 < f) → ∀ H', SatL H' (refX rb (rows ++ bs.map fun b => (f, b)) syn :: F) → K (I64 0) H') :
    CallF Tryz.prog 65 #[.pointer (some ⟨rb, 0, none⟩), I64 f, .slice ba bs.length bc] H K := by
  refine R10_Disk_Append.call ?_
  unfold R10_Disk_Append.code
  refine ⟨fun hc => k1 (by simpa using hc) _ h, fun hc => ?_⟩
  have hf : ¬ (f < 0 ∨ 2147483647 < f) := by simpa [Bool.or_eq_false_iff, not_or] using hc
  refine ⟨fun t H' => ∃ j : Nat, t = j ∧ j ≤ bs.length ∧ SatL H' (refX rb (rows ++ (bs.take j).map fun b => (f, b)) syn :: F), fun t _ => bs.length - t.toNat, ⟨0, rfl, Nat.zero_le _, by simpa using h⟩, ?_⟩
  rintro t H1 ⟨j, rfl, hj, h⟩
  unfold R10_Disk_Append.l1
  refine ⟨fun hc1 => ?_, fun hc1 => ?_⟩
  · have hlt : j < bs.length := by have := of_decide_eq_true hc1; omega
    obtain ⟨a, c, h⟩ := refX_open h
    have hr := (hl _ h.tl.tl).at (j := j) hlt
    refine ⟨_, _, _, h.rd 0 rfl _, ⟨by omega, by omega⟩, _, _, hr.1, _, hr.2, ?_⟩
    refine h.al fun b1 _ h => ⟨h.rd 1 rfl _, ?_⟩
    have hln : (rows ++ (bs.take j).map fun b => (f, b)).length = rows.length + j := by simp; omega
    refine SatL.append (m := 1) (ws := encB (f, bs[j])) sl28 h 2 rfl (h.ce_rd 0 rfl) rfl rfl (by omega) (by omega) fun a2 c2 H4 h => ⟨_, _, _, rfl, ?_⟩
    refine h.st 1 rfl rfl fun H5 h => ?_
    rw [w64 (x := (j : Int) + 1) (by omega) (by omega)]
    refine ⟨⟨j + 1, rfl, hlt, ?_⟩, by simp only [Int.toNat_natCast]; omega⟩
    have e1 : rows ++ (bs.take (j + 1)).map (fun b => (f, b)) = (rows ++ (bs.take j).map fun b => (f, b)) ++ [(f, bs[j])] := by
      rw [List.take_succ_eq_append_getElem hlt, List.map_append, List.append_assoc]; rfl
    rw [e1]
    have h2 : SatL H5 (cellsA rb [.slice a2 ((rows ++ (bs.take j).map fun b => (f, b)).length + 1) c2, I64 syn] 30 :: slA 108 2 a2 ((rows ++ (bs.take j).map fun b => (f, b)).length + 1) c2 (flat encB (rows ++ (bs.take j).map fun b => (f, b)) ++ encB (f, bs[j])) :: F) := h.ordt [1, 2] 3 (by decide) (by decide)
    have ea : flat encB ((rows ++ (bs.take j).map fun b => (f, b)) ++ [(f, bs[j])]) = flat encB (rows ++ (bs.take j).map fun b => (f, b)) ++ encB (f, bs[j]) := flat_append.trans (by rw [flat_one])
    rw [← ea] at h2
    refine refX_shut (a := a2) (c := c2) ?_
    rw [show ((rows ++ (bs.take j).map fun b => (f, b)) ++ [(f, bs[j])]).length = (rows ++ (bs.take j).map fun b => (f, b)).length + 1 from List.length_append]
    exact h2
  · obtain rfl : j = bs.length := by have := of_decide_eq_false hc1; omega
    rw [List.take_length] at h
    exact k2 hf _ h

theorem RRead_spec {f : Int} (hB : rows.length ≤ 1099511627776) (h : SatL H (refX rb rows syn :: F))
    (k : ∀ a c H', SatL H' (slA 5 1 a (bytesOf f rows).length c ((bytesOf f rows).map U8) :: refX rb rows syn :: F) → K (.slice a (bytesOf f rows).length c) H') :
    CallF Tryz.prog 37 #[.pointer (some ⟨rb, 0, none⟩), I64 f] H K := by
  obtain ⟨ra, rc, h⟩ := refX_open h
  refine R10_Disk_Read.call ?_
  unfold R10_Disk_Read.code
  refine h.al fun b _ h => ?_
  have h1 : SatL _ (slA 5 1 (some ⟨b, 0, none⟩) 0 0 ((bytesOf f (rows.take 0)).map U8) :: _) := SatL.sl_pt (cs := []) h 1 0 rfl
  refine ⟨fun oa on oc i H' => ∃ j : Nat, i = j ∧ j ≤ rows.length ∧ on = (bytesOf f (rows.take j)).length ∧
      SatL H' (slA 5 1 oa (bytesOf f (rows.take j)).length oc ((bytesOf f (rows.take j)).map U8) :: cellsA rb [.slice ra rows.length rc, I64 syn] 30 :: slA 108 2 ra rows.length rc (flat encB rows) :: F), fun _ _ _ i _ => rows.length - i.toNat,
    ⟨0, rfl, Nat.zero_le _, rfl, h1⟩, ?_⟩
  rintro oa on oc i H1 ⟨j, rfl, hj, rfl, h⟩
  unfold R10_Disk_Read.l2
  have hble := bytesOf_length_le f (rows.take j)
  rw [List.length_take] at hble
  refine ⟨_, _, _, h.rd 1 rfl _, fun hc => ?_, fun hc => ?_⟩
  · have hlt : j < rows.length := by have := of_decide_eq_true hc; omega
    have hr := h.sl_rd 2 rfl
    refine ⟨_, _, _, h.rd 1 rfl _, ⟨by omega, by omega⟩, _, _, hr.some encB_len (by omega) hlt, _, hr.el0 encB_len hlt rfl, ?_⟩
    intro Jn hJ
    refine ⟨fun hc1 => ?_, fun hc1 => ?_⟩
    · have e : rows[j].1 = f := of_decide_eq_true hc1
      refine ⟨_, _, _, h.rd 1 rfl _, ⟨by omega, by omega⟩, _, _, hr.some encB_len (by omega) hlt, _, hr.el encB_len hlt 1 rfl, ?_⟩
      refine h.al fun b3 _ h => ?_
      refine SatL.append (m := 1) (ws := [U8 rows[j].2]) sl32 h 1 rfl (h.ce_rd 0 rfl) rfl rfl (by omega) (by omega) fun a2 c2 H4 h => ⟨_, _, _, rfl, hJ _ _ _ _ ?_⟩
      unfold R10_Disk_Read.r1
      rw [w64 (x := (j : Int) + 1) (by omega) (by omega)]
      have e2 := bytesOf_snoc f rows hlt
      rw [if_pos e] at e2
      refine ⟨⟨j + 1, rfl, hlt, by rw [e2]; simp, ?_⟩, by simp only [Int.toNat_natCast]; omega⟩
      rw [e2, List.length_append, List.length_singleton, List.map_append]
      exact h.ordt [1, 2, 3] 4 (by decide) (by decide)
    · have e : ¬ rows[j].1 = f := of_decide_eq_false hc1
      refine hJ _ _ _ _ ?_
      unfold R10_Disk_Read.r1
      rw [w64 (x := (j : Int) + 1) (by omega) (by omega)]
      have e2 := bytesOf_snoc f rows hlt
      rw [if_neg e] at e2
      refine ⟨⟨j + 1, rfl, hlt, by rw [e2], by rw [e2]; exact h⟩, by simp only [Int.toNat_natCast]; omega⟩
  · obtain rfl : j = rows.length := by have := of_decide_eq_false hc; omega
    rw [List.take_length] at h ⊢
    exact k _ _ _ ((refX_shut (F := _ :: F) (h.ordt [1, 2, 0] 3 (by decide) (by decide))).ordt [1, 0] 2 (by decide) (by decide))

theorem RDelete_spec {f : Int} (hB : rows.length ≤ 1099511627776) (hs : syn ≤ rows.length) (h : SatL H (refX rb rows syn :: F))
    (k1 : bytesOf f rows = [] → ∀ H', SatL H' (refX rb rows syn :: F) → K (I64 23) H')
    (k2 : bytesOf f rows ≠ [] → syn < rows.length → ∀ H', SatL H' (refX rb rows syn :: F) → K (I64 21) H')
    (k3 : bytesOf f rows ≠ [] → ¬ syn < rows.length → ∀ H', SatL H' (refX rb (rows.filter fun r => decide (r.1 ≠ f)) (rows.filter fun r => decide (r.1 ≠ f)).length :: F) → K (I64 0) H') :
    CallF Tryz.prog 66 #[.pointer (some ⟨rb, 0, none⟩), I64 f] H K := by
  refine R10_Disk_Delete.call ?_
  unfold R10_Disk_Delete.code
  refine RRead_spec hB h fun a0 c0 H1 h => ⟨_, _, _, rfl, fun hc => ?_, fun hc => ?_⟩
  · refine k1 (List.length_eq_zero_iff.1 ?_) _ h.tl
    have := of_decide_eq_true hc; omega
  have hne : bytesOf f rows ≠ [] := fun e => by rw [e] at hc; simp at hc
  obtain ⟨ra, rc, h⟩ := refX_open h.tl
  refine ⟨_, h.rd 0 rfl _, _, _, _, h.rd 0 rfl _, fun hc1 => k2 hne (by have := of_decide_eq_true hc1; omega) _ (refX_shut h), fun hc1 => ?_⟩
  have hns : ¬ syn < rows.length := by have := of_decide_eq_false hc1; omega
  refine h.al fun b _ h => ?_
  have h1 : SatL _ (slA 108 2 (some ⟨b, 0, none⟩) 0 0 (flat encB ((rows.take 0).filter fun r => decide (r.1 ≠ f))) :: _) := SatL.sl_pt (cs := []) h 2 0 rfl
  refine ⟨fun oa on oc i H' => ∃ j : Nat, i = j ∧ j ≤ rows.length ∧ on = ((rows.take j).filter fun r => decide (r.1 ≠ f)).length ∧
      SatL H' (slA 108 2 oa ((rows.take j).filter fun r => decide (r.1 ≠ f)).length oc (flat encB ((rows.take j).filter fun r => decide (r.1 ≠ f))) :: cellsA rb [.slice ra rows.length rc, I64 syn] 30 :: slA 108 2 ra rows.length rc (flat encB rows) :: F), fun _ _ _ i _ => rows.length - i.toNat,
    ⟨0, rfl, Nat.zero_le _, rfl, h1⟩, ?_⟩
  rintro oa on oc i H2 ⟨j, rfl, hj, rfl, h⟩
  unfold R10_Disk_Delete.l2
  have hfl : ((rows.take j).filter fun r => decide (r.1 ≠ f)).length ≤ j := by
    have := List.length_filter_le (fun r : Int × Int => decide (r.1 ≠ f)) (rows.take j)
    rw [List.length_take] at this; omega
  refine ⟨_, _, _, h.rd 1 rfl _, fun hc => ?_, fun hc => ?_⟩
  · have hlt : j < rows.length := by have := of_decide_eq_true hc; omega
    have hr := h.sl_rd 2 rfl
    refine ⟨_, _, _, h.rd 1 rfl _, ⟨by omega, by omega⟩, _, _, hr.some encB_len (by omega) hlt, _, hr.el0 encB_len hlt rfl, ?_⟩
    intro Jn hJ
    have e2 := filter_snoc f rows hlt
    refine ⟨fun hc2 => ?_, fun hc2 => ?_⟩
    · have e : rows[j].1 ≠ f := by simpa using hc2
      rw [if_pos e] at e2
      refine ⟨_, _, _, h.rd 1 rfl _, ⟨by omega, by omega⟩, _, _, hr.some encB_len (by omega) hlt, _, _, hr.els encB_len hlt, ?_⟩
      refine h.al fun b3 _ h => ?_
      refine SatL.append (m := 1) (ws := encB rows[j]) sl28 h 1 rfl (h.ce_rd 0 rfl) rfl rfl (by omega) (by omega) fun a2 c2 H4 h => ⟨_, _, _, rfl, hJ _ _ _ _ ?_⟩
      unfold R10_Disk_Delete.r1
      rw [w64 (x := (j : Int) + 1) (by omega) (by omega)]
      refine ⟨⟨j + 1, rfl, hlt, by rw [e2]; simp, ?_⟩, by simp only [Int.toNat_natCast]; omega⟩
      rw [e2, List.length_append, List.length_singleton, flat_append, flat_one]
      exact h.ordt [1, 2, 3] 4 (by decide) (by decide)
    · have e : ¬ rows[j].1 ≠ f := by simpa using hc2
      rw [if_neg e] at e2
      refine hJ _ _ _ _ ?_
      unfold R10_Disk_Delete.r1
      rw [w64 (x := (j : Int) + 1) (by omega) (by omega)]
      exact ⟨⟨j + 1, rfl, hlt, by rw [e2], by rw [e2]; exact h⟩, by simp only [Int.toNat_natCast]; omega⟩
  · obtain rfl : j = rows.length := by have := of_decide_eq_false hc; omega
    rw [List.take_length] at h ⊢
    exact h.st 1 rfl rfl fun _ h => h.st 1 rfl rfl fun _ h => k3 hne hns _ (refX_shut (h.ordt [1, 0] 3 (by decide) (by decide)))

theorem RCrash_spec {keep : Int} (hk : wf64 keep) (hB : rows.length ≤ 1099511627776) (hs : syn ≤ rows.length) (h : SatL H (refX rb rows syn :: F))
    (k : ∀ H', SatL H' (refX rb (crashR rows syn keep) (crashR rows syn keep).length :: F) → K (.tuple #[]) H') : CallF Tryz.prog 29 #[.pointer (some ⟨rb, 0, none⟩), I64 keep] H K := by
  obtain ⟨ra, rc, h⟩ := refX_open h
  unfold wf64 at hk
  refine R10_Disk_Crash.call ?_
  unfold R10_Disk_Crash.code
  have emx : (if 0 > keep then 0 else keep) = max keep 0 := by split <;> omega
  have e1 : IntKind.i64.wrap ((rows.length : Int) - syn) = (rows.length : Int) - syn := w64 (by omega) (by omega)
  have emn : (if (rows.length : Int) - syn < max keep 0 then (rows.length : Int) - syn else max keep 0) = min (max keep 0) ((rows.length : Int) - syn) := by split <;> omega
  refine ⟨_, _, _, h.rd 0 rfl _, _, h.rd 0 rfl _, _, _, _, h.rd 0 rfl _, _, h.rd 0 rfl _, ?_⟩
  rw [e1, emx, emn, w64 (x := (syn : Int) + min (max keep 0) ((rows.length : Int) - syn)) (by omega) (by omega)]
  have hnc := h.sl_nc 1 rfl
  have htn : ((syn : Int) + min (max keep 0) ((rows.length : Int) - syn)).toNat = syn + (min (max keep 0) ((rows.length : Int) - syn)).toNat := by omega
  refine ⟨⟨by omega, by omega, by omega⟩, h.al fun b _ h => ⟨h.rd 1 rfl _, h.rd 1 rfl _, ?_⟩⟩
  rw [htn]
  have hcl : (crashR rows syn keep).length = syn + (min (max keep 0) ((rows.length : Int) - syn)).toNat := by unfold crashR; rw [List.length_take]; omega
  have hr := (h.sl_rd 2 rfl).take ((syn + (min (max keep 0) ((rows.length : Int) - syn)).toNat) * 2)
  rw [flat_take encB_len] at hr
  have hr : rdS _ ra (flat encB (crashR rows syn keep)) := hr
  rw [← hcl]
  have hz : slB ra 0 rc 2 = ra := by
    rcases Nat.eq_zero_or_pos rows.length with h0 | h0
    · unfold slB
      split
      · rfl
      · have := (h.foc 2)
        obtain ⟨_, h4 | ⟨bb, pre, post, e', fr, h4, _⟩⟩ := slA_open (show Sat _ (slA 108 2 ra rows.length rc (flat encB rows) * star (del 2 _)) from this)
        · rw [h4.1]; rfl
        · rw [h4]; rw [Option.map_some, Addr_add]; simp
    · exact slB0 ((h.sl_rd 2 rfl).some encB_len (by omega) h0)
  rw [hz]
  have h1 := (SatL.sl_pt (cs := []) h 2 0 rfl)
  refine SatL.append (m := (crashR rows syn keep).length) sl28 h1 0 rfl hr (flat_length encB_len _) (flat_plain (fun _ => rfl) _) (by rw [hcl]; omega) (by rw [hcl]; omega) fun a' c' H' h2 => ⟨_, _, _, rfl, ?_⟩
  have h3 : SatL H' (slA 108 2 a' (0 + (crashR rows syn keep).length) c' ([] ++ flat encB (crashR rows syn keep)) :: cellsA rb [.slice ra rows.length rc, I64 syn] 30 :: slA 108 2 ra rows.length rc (flat encB rows) :: F) := h2
  rw [Nat.zero_add, List.nil_append] at h3
  rw [Nat.zero_add]
  refine h3.st 1 rfl rfl fun _ h => ⟨_, _, _, h.rd 1 rfl _, h.st 1 rfl rfl fun _ h => k _ (refX_shut (h.ordt [1, 0] 3 (by decide) (by decide)))⟩
end
end Go.Proofs.YtomdcdfcdeaabaaGreat
