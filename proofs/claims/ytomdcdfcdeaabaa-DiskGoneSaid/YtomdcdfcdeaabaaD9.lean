/-
  DiskCrash, DiskSync, DiskGone.
-/
import Derived.Test.YtomdcdfcdeaabaaD8
set_option linter.unusedVariables false
set_option linter.unusedSimpArgs false
namespace Go.Nm
open Go
theorem bytesOf_pre (f : Int) (rows : DR) {m n : Nat} (h : m ≤ n) : ∃ X, bytesOf f (rows.take n) = bytesOf f (rows.take m) ++ X := by
  refine ⟨bytesOf f ((rows.take n).drop m), ?_⟩
  rw [← bytesOf_append]
  conv => lhs; rw [← List.take_append_drop m (rows.take n)]
  rw [List.take_take, Nat.min_eq_left h]
theorem filesOf_sub {a b : DR} (h : ∀ x ∈ a.map Prod.fst, x ∈ b.map Prod.fst) : (filesOf a).length ≤ (filesOf b).length := by
  have hn : (filesOf a).Nodup := (filesOf_rising a).imp fun h => by omega
  exact hn.length_le_of_subset fun x hx => mem_filesOf.2 (h x (mem_filesOf.1 hx))
theorem doD_keeps {rows : DR} {s : DR × Nat} (h : ∃ X, s.1 = rows ++ X) (hs : rows.length ≤ s.2) (hs2 : s.2 ≤ s.1.length) {x : CD} (hx : x.what ≠ 2) : (∃ X, (doD s x).1 = rows ++ X) ∧ rows.length ≤ (doD s x).2 := by
  obtain ⟨X, hX⟩ := h
  unfold doD
  split
  · split
    · exact ⟨⟨X, hX⟩, hs⟩
    · exact ⟨⟨X ++ _, by simp only; rw [hX, List.append_assoc]⟩, hs⟩
  split
  · exact ⟨⟨X, hX⟩, by simp only; omega⟩
  split
  · have hl : rows.length ≤ (crashR s.1 s.2 x.keep).length := by unfold crashR; rw [List.length_take]; omega
    refine ⟨⟨X.take (s.2 + (min (max x.keep 0) ((s.1.length : Int) - s.2)).toNat - rows.length), ?_⟩, hl⟩
    show crashR s.1 s.2 x.keep = _
    unfold crashR
    rw [hX, List.take_append, List.take_of_length_le (by omega), ← hX]
  · exact ⟨⟨X, hX⟩, hs⟩
theorem crash_keeps {rows : DR} {s : DR × Nat} (h : ∃ X, s.1 = rows ++ X) (hs : rows.length ≤ s.2) (hs2 : s.2 ≤ s.1.length) (keep : Int) : ∃ X, crashR s.1 s.2 keep = rows ++ X := by
  have := (doD_keeps h hs hs2 (x := ⟨3, 0, keep, none, 0, []⟩) (show (3 : Int) ≠ 2 by decide)).1
  exact this
end Go.Nm
namespace Go.Proofs.Ytomdcdfcdeaabaa
open Go Go.Nm Go.Proofs

section
variable {H0 H : Heap} {ca ma : Option Addr} {cc mc : Nat} {calls more : List CD} {rows : DR} {syn db : Nat} {F : List Assn} {K : Value → Heap → Prop}

theorem Read_spec' {f : Int} (hB : rows.length ≤ 1099511627776) (h : SatL H (diskX db rows syn :: F))
    (k : ∀ a c H', SatL H' (slA 5 1 a (bytesOf f rows).length c ((bytesOf f rows).map U8) :: diskX db rows syn :: F) → K (.tuple #[.slice a (bytesOf f rows).length c, I64 (if bytesOf f rows = [] then 23 else 0)]) H') :
    CallF Try.prog 18 #[.pointer (some ⟨db, 0, none⟩), I64 f] H K := by
  refine Read_spec hB h (fun hz H' h => ?_) fun hz a c H' h => ?_
  · have := k none 0 H'
    rw [hz] at this
    exact this (h.sl_nil 5 1)
  · have := k a c H' h
    rw [if_neg hz] at this
    exact this
theorem rd_pre {a : Option Addr} {c n : Nat} {bs : List Int} (h : SatL H F) (i : Nat) (hA : nth i F = slA 5 1 a bs.length c (bs.map U8)) : rdS H (slB a 0 c 1) ((bs.take n).map U8) := by
  have hnc := h.sl_nc i hA
  have := (rdS.subB (k := 0) (h.sl_rd i hA) (by simpa using hnc)).take n
  rwa [List.drop_zero, ← List.map_take] at this
theorem same_pre {H : Heap} {a b : Option Addr} {c d n : Nat} {xs ys : List Int} (hn : ys.length = n) (hx : n ≤ xs.length) (he : xs.take n = ys) (ha : rdS H (slB a 0 c 1) ((xs.take n).map U8)) (hb : rdS H b (ys.map U8)) (hl : ys.length ≤ 1099511627776) :
    CallQ Try.prog 20 #[.slice (slB a 0 c 1) n c, .slice b n d] H (.bool true) := by
  rw [he] at ha
  have := SameBytes_spec (c := c) (d := d) ha hb hl
  rw [hn, decide_eq_true rfl] at this
  exact this

set_option maxHeartbeats 800000 in
theorem DiskCrash_true {keep : Int} (hlen0 : calls.length ≤ maxLen) (hc : rdS H0 ca (flat encC calls)) (hq : ∀ x ∈ calls, CallOk H0 x) (hk : wf64 keep) :
    CallF Try.prog 4 #[.slice ca calls.length cc, I64 keep] H0 fun v H' => v = .bool true ∧ Grow H0 H' := by
  refine DiskCrash.call ?_
  unfold DiskCrash.code
  refine alive_spec (sat0 H0) fun H1 h => ⟨_, rfl, fun hc => (by cases hc), fun _ => ?_⟩
  refine ⟨_, Great_spec (h.old_rd 0 rfl hc) hlen0, fun _ => ⟨rfl, h.old_grow 0 rfl⟩, fun hg => ?_⟩
  obtain ⟨hlen, hbig⟩ := great_no hg
  refine New_spec h fun db H2 h => ⟨_, rfl, fun hc => (by cases hc), fun _ => ?_⟩
  refine ⟨fun i H' => ∃ (k : Nat) (s : DR × Nat), i = k ∧ k ≤ calls.length ∧ s.2 ≤ s.1.length ∧ s.1.length ≤ 200 * k ∧ SatL H' [diskX db s.1 s.2, old H0], fun i _ => calls.length - i.toNat,
    ⟨0, ([], 0), rfl, Nat.zero_le _, Nat.le_refl _, Nat.le_refl _, h⟩, ?_⟩
  rintro i H4 ⟨k, ⟨rows, syn⟩, rfl, hk1, hs, hsl, h⟩
  simp only at hs hsl h
  unfold DiskCrash.l3
  refine ⟨fun hc1 => ?_, fun hc1 => ?_⟩
  · have hlt : k < calls.length := by have := of_decide_eq_true hc1; omega
    refine h.al fun rb _ h => ?_
    have h := (refX_shut (rows := []) (syn := 0) ((h.sl_nil 105 2).ordt [1, 0, 2, 3] 4 (by decide) (by decide))).ordt [1, 0, 2] 3 (by decide) (by decide)
    have hr := h.old_rd 2 rfl hc
    have hx := hq _ (List.getElem_mem hlt)
    have hxb := hbig _ (List.getElem_mem hlt)
    refine ⟨⟨by omega, by omega⟩, _, _, hr.some encC_len (by omega) hlt, _, _, _, _, _, _, hr.els encC_len hlt, ?_⟩
    generalize calls[k] = x at *
    have hl2 := doD_len (rows, syn) x
    refine Do_spec (s := (rows, syn)) (s2 := ([], 0)) (F := [old H0]) hx.2 (by omega) (by simp only; omega) (by simp only [List.length_nil]; omega) (Nat.le_refl _) (fun H' h' => h'.old_rd 0 rfl hx.1) h fun r H5 hr h => ⟨_, rfl, ?_⟩
    rw [w64 (x := (k : Int) + 1) (by omega) (by omega)]
    exact ⟨⟨k + 1, doD (rows, syn) x, rfl, hlt, doD_syn (s := (rows, syn)) hs x, by simp only at hl2; omega, h.ordt [0, 2] 3 (by decide) (by decide)⟩, by simp only [Int.toNat_natCast]; omega⟩
  refine Clone_spec (by omega) h fun d1 H5 h => ⟨_, rfl, ?_⟩
  refine Clone_spec (F := [diskX d1 rows syn, old H0]) (by omega) (h.ordt [1, 0, 2] 3 (by decide) (by decide)) fun d2 H6 h => ⟨_, rfl, fun hf => (by cases hf), fun _ => ?_⟩
  refine Crash_spec (keep := 0) ⟨by decide, by decide⟩ (by omega) h fun H7 h => ⟨rfl, ?_⟩
  refine Pending_spec (db := db) (rows := rows) (syn := syn) (F := [diskX d2 (crashR rows syn 0) (crashR rows syn 0).length, diskX d1 rows syn, old H0]) (by omega) (h.ordt [1, 0, 2, 3] 4 (by decide) (by decide)) fun H8 h => ⟨_, rfl, ?_⟩
  refine Crash_spec hk (by omega) h fun H9 h => ⟨rfl, ?_⟩
  unfold wf64 at hk
  have hA0 : crashR rows syn 0 = rows.take syn := by unfold crashR; rw [show syn + (min (max 0 0) ((rows.length : Int) - syn)).toNat = syn by omega]
  have hAk : crashR rows syn keep = rows.take (syn + (min (max keep 0) ((rows.length : Int) - syn)).toNat) := rfl
  have hL0 : (crashR rows syn 0).length = syn := by rw [hA0, List.length_take]; omega
  have hLk : (crashR rows syn keep).length = syn + (min (max keep 0) ((rows.length : Int) - syn)).toNat := by rw [hAk, List.length_take]; omega
  refine Files_spec (db := d1) (rows := rows) (syn := syn) (F := [diskX db (crashR rows syn keep) (crashR rows syn keep).length, diskX d2 (crashR rows syn 0) (crashR rows syn 0).length, old H0]) (by omega) (h.ordt [2, 0, 1, 3] 4 (by decide) (by decide)) fun la lc H10 h => ⟨_, _, _, rfl, ?_⟩
  have hfl := filesOf_length_le rows
  refine ⟨fun i H' => ∃ j : Nat, i = j ∧ j ≤ (filesOf rows).length ∧ SatL H' [slA 3 1 la (filesOf rows).length lc ((filesOf rows).map I64), diskX d1 rows syn, diskX db (crashR rows syn keep) (crashR rows syn keep).length, diskX d2 (crashR rows syn 0) (crashR rows syn 0).length, old H0], fun i _ => (filesOf rows).length - i.toNat,
    ⟨0, rfl, Nat.zero_le _, h⟩, ?_⟩
  rintro i H11 ⟨j, rfl, hj, h⟩
  unfold DiskCrash.l2
  refine ⟨fun hc2 => ?_, fun hc2 => ?_⟩
  · have hlt : j < (filesOf rows).length := by have := of_decide_eq_true hc2; omega
    have hr := (h.sl_rd 0 rfl).at (j := j) hlt
    refine ⟨⟨by omega, by omega⟩, _, _, hr.1, _, hr.2, ?_⟩
    obtain ⟨f, hf⟩ : ∃ f, (filesOf rows)[j] = f := ⟨_, rfl⟩
    rw [hf]
    obtain ⟨X, hX⟩ := bytesOf_pre f rows (m := syn + (min (max keep 0) ((rows.length : Int) - syn)).toNat) (n := rows.length) (by omega)
    rw [List.take_length, ← hAk] at hX
    obtain ⟨Y, hY⟩ := bytesOf_pre f rows (m := syn) (n := syn + (min (max keep 0) ((rows.length : Int) - syn)).toNat) (by omega)
    rw [← hAk, ← hA0] at hY
    have hbA := bytesOf_length_le f rows
    refine Read_spec' (f := f) (F := [slA 3 1 la (filesOf rows).length lc ((filesOf rows).map I64), diskX db (crashR rows syn keep) (crashR rows syn keep).length, diskX d2 (crashR rows syn 0) (crashR rows syn 0).length, old H0]) (by omega) (h.ordt [1, 0, 2, 3, 4] 5 (by decide) (by decide)) fun a1 c1 H12 h => ⟨_, _, _, _, rfl, ?_⟩
    have hr := (h.sl_rd 2 rfl).at (j := j) hlt
    rw [hf] at hr
    refine ⟨⟨by omega, by omega⟩, _, _, hr.1, _, hr.2, ?_⟩
    refine Read_spec' (f := f) (F := [slA 5 1 a1 (bytesOf f rows).length c1 ((bytesOf f rows).map U8), diskX d1 rows syn, slA 3 1 la (filesOf rows).length lc ((filesOf rows).map I64), diskX d2 (crashR rows syn 0) (crashR rows syn 0).length, old H0]) (by omega) (h.ordt [3, 0, 1, 2, 4, 5] 6 (by decide) (by decide)) fun a2 c2 H13 h => ⟨_, _, _, _, rfl, ?_⟩
    have hr := (h.sl_rd 4 rfl).at (j := j) hlt
    rw [hf] at hr
    refine ⟨⟨by omega, by omega⟩, _, _, hr.1, _, hr.2, ?_⟩
    refine Read_spec' (f := f) (F := [slA 5 1 a2 (bytesOf f (crashR rows syn keep)).length c2 ((bytesOf f (crashR rows syn keep)).map U8), diskX db (crashR rows syn keep) (crashR rows syn keep).length, slA 5 1 a1 (bytesOf f rows).length c1 ((bytesOf f rows).map U8), diskX d1 rows syn, slA 3 1 la (filesOf rows).length lc ((filesOf rows).map I64), old H0]) (by omega) (h.ordt [5, 0, 1, 2, 3, 4, 6] 7 (by decide) (by decide)) fun a3 c3 H14 h => ⟨_, _, _, _, rfl, ?_⟩
    have n1 := h.sl_nc 4 rfl
    have n2 := h.sl_nc 2 rfl
    have p1 := rd_pre (n := (bytesOf f (crashR rows syn keep)).length) h 4 rfl
    have p2 := rd_pre (n := (bytesOf f (crashR rows syn 0)).length) h 2 rfl
    have lA : (bytesOf f rows).length = (bytesOf f (crashR rows syn keep)).length + X.length := by rw [hX, List.length_append]
    have lB : (bytesOf f (crashR rows syn keep)).length = (bytesOf f (crashR rows syn 0)).length + Y.length := by rw [hY, List.length_append]
    have q1 := same_pre (d := c2) (c := c1) rfl (by omega) (by rw [hX, List.take_left]) p1 (h.sl_rd 2 rfl) (by omega)
    have q2 := same_pre (d := c3) (c := c2) rfl (by omega) (by rw [hY, List.take_left]) p2 (h.sl_rd 0 rfl) (by omega)
    refine ⟨fun _ => ⟨by omega, by omega, by omega⟩, _, fun _ => q1, fun _ => ⟨by omega, by omega, by omega⟩, _, fun _ => q2, fun hf2 => ?_, fun _ => ?_⟩
    · exfalso
      simp only [Bool.or_eq_true, decide_eq_true_eq, Bool.not_true, Bool.false_eq_true, or_false] at hf2
      omega
    · rw [w64 (x := (j : Int) + 1) (by omega) (by omega)]
      exact ⟨⟨j + 1, rfl, hlt, h.ordt [6, 5, 3, 1, 7] 8 (by decide) (by decide)⟩, by simp only [Int.toNat_natCast]; omega⟩
  · intro Jn hJ
    have emx : (if 0 > keep then 0 else keep) = max keep 0 := by split <;> omega
    have emn : (if (rows.length : Int) - syn < max keep 0 then (rows.length : Int) - syn else max keep 0) = min (max keep 0) ((rows.length : Int) - syn) := by split <;> omega
    refine Pending_spec (db := db) (rows := crashR rows syn keep) (syn := (crashR rows syn keep).length) (F := [slA 3 1 la (filesOf rows).length lc ((filesOf rows).map I64), diskX d1 rows syn, diskX d2 (crashR rows syn 0) (crashR rows syn 0).length, old H0]) (by omega) (h.ordt [2, 0, 1, 3, 4] 5 (by decide) (by decide)) fun H12 h => ⟨_, rfl, fun _ => ?_, fun hf => absurd (decide_eq_true (by omega)) hf⟩
    refine Size_spec (db := d2) (rows := crashR rows syn 0) (syn := (crashR rows syn 0).length) (F := [diskX db (crashR rows syn keep) (crashR rows syn keep).length, slA 3 1 la (filesOf rows).length lc ((filesOf rows).map I64), diskX d1 rows syn, old H0]) (by omega) (h.ordt [3, 0, 1, 2, 4] 5 (by decide) (by decide)) fun H13 h => ⟨_, rfl, ?_⟩
    refine Size_spec (db := d1) (rows := rows) (syn := syn) (F := [diskX d2 (crashR rows syn 0) (crashR rows syn 0).length, diskX db (crashR rows syn keep) (crashR rows syn keep).length, slA 3 1 la (filesOf rows).length lc ((filesOf rows).map I64), old H0]) (by omega) (h.ordt [3, 0, 1, 2, 4] 5 (by decide) (by decide)) fun H14 h => ⟨_, rfl, fun _ => ?_, fun hf => absurd (decide_eq_true (by rw [w64 (by omega) (by omega)]; omega)) hf⟩
    refine Size_spec (db := db) (rows := crashR rows syn keep) (syn := (crashR rows syn keep).length) (F := [diskX d1 rows syn, slA 3 1 la (filesOf rows).length lc ((filesOf rows).map I64), old H0]) (by omega) (h.ordt [2, 0, 3, 4] 5 (by decide) (by decide)) fun H15 h => ⟨_, rfl, ?_⟩
    refine Size_spec (db := d1) (rows := rows) (syn := syn) (F := [diskX db (crashR rows syn keep) (crashR rows syn keep).length, slA 3 1 la (filesOf rows).length lc ((filesOf rows).map I64), old H0]) (by omega) (h.ordt [1, 0, 2, 3] 4 (by decide) (by decide)) fun H16 h => ⟨_, rfl, fun _ => ?_, fun hf => absurd (decide_eq_true ?_) hf⟩
    · refine Files_spec (db := db) (rows := crashR rows syn keep) (syn := (crashR rows syn keep).length) (F := [diskX d1 rows syn, slA 3 1 la (filesOf rows).length lc ((filesOf rows).map I64), old H0]) (by omega) (h.ordt [1, 0, 2, 3] 4 (by decide) (by decide)) fun la2 lc2 H17 h => ⟨_, _, _, rfl, hJ _ _ ?_⟩
      unfold DiskCrash.r1
      have hsub := filesOf_sub (a := crashR rows syn keep) (b := rows) fun x hx => by
        rw [hAk] at hx
        obtain ⟨r, hr, e⟩ := List.mem_map.1 hx
        exact List.mem_map.2 ⟨r, List.mem_of_mem_take hr, e⟩
      rw [decide_eq_true (by omega)]
      exact ⟨rfl, h.old_grow 4 rfl⟩
    · rw [emx, emn, w64 (x := (rows.length : Int) - syn - min (max keep 0) ((rows.length : Int) - syn)) (by omega) (by omega), w64 (by omega) (by omega)]
      omega
end
end Go.Proofs.Ytomdcdfcdeaabaa
