/-
  Lists held against one another; the document's files, in order.
-/
import Derived.Test.YtomdcdfcdeaabaaGreatD5
set_option linter.unusedVariables false
set_option linter.unusedSimpArgs false
namespace Go.Nm
open Go
theorem mem_filesOf_take {rows : DR} {j : Nat} (hj : j < rows.length) {x : Int} : x ∈ filesOf (rows.take (j + 1)) ↔ x ∈ filesOf (rows.take j) ∨ x = rows[j].1 := by
  rw [mem_filesOf, mem_filesOf, List.take_succ_eq_append_getElem hj, List.map_append, List.mem_append]
  simp
theorem filesOf_there {rows : DR} {j : Nat} (hj : j < rows.length) (h : rows[j].1 ∈ filesOf (rows.take j)) : filesOf (rows.take (j + 1)) = filesOf (rows.take j) :=
  rising_eq (filesOf_rising _) (filesOf_rising _) fun x => by
    rw [mem_filesOf_take hj]
    exact ⟨fun hh => hh.elim id (fun e => by rw [e]; exact h), Or.inl⟩
theorem filesOf_new {rows : DR} {j : Nat} (hj : j < rows.length) (h : rows[j].1 ∉ filesOf (rows.take j)) {P S : List Int} (hPS : filesOf (rows.take j) = P ++ S) (hP : ∀ x ∈ P, x < rows[j].1) (hS : ∀ x ∈ S, rows[j].1 < x) :
    P ++ rows[j].1 :: S = filesOf (rows.take (j + 1)) := by
  have hr := filesOf_rising (rows.take j)
  rw [hPS, List.pairwise_append] at hr
  refine rising_eq ?_ (filesOf_rising _) fun x => ?_
  · rw [List.pairwise_append, List.pairwise_cons]
    refine ⟨hr.1, ⟨hS, hr.2.1⟩, fun a ha b hb => ?_⟩
    rcases List.mem_cons.1 hb with rfl | hb
    · exact hP a ha
    · exact hr.2.2 a ha b hb
  · rw [mem_filesOf_take hj, hPS]
    simp only [List.mem_append, List.mem_cons]
    constructor
    · rintro (h1 | h1 | h1)
      · exact Or.inl (Or.inl h1)
      · exact Or.inr h1
      · exact Or.inl (Or.inr h1)
    · rintro ((h1 | h1) | h1)
      · exact Or.inl h1
      · exact Or.inr (Or.inr h1)
      · exact Or.inr (Or.inl h1)
theorem filesOf_nil : filesOf [] = [] := sortI_of_sorted List.Pairwise.nil
theorem filesOf_length_le (rows : DR) : (filesOf rows).length ≤ rows.length := by
  unfold filesOf
  rw [sortI_length]
  have : ∀ l : List Int, (dedupI l).length ≤ l.length := by
    intro l
    induction l with
    | nil => exact Nat.le_refl _
    | cons a r ih =>
      unfold dedupI
      split
      · simp only [List.length_cons]; omega
      · simp only [List.length_cons]; omega
  have := this (rows.map Prod.fst)
  simpa using this
end Go.Nm
namespace Go.Proofs.YtomdcdfcdeaabaaGreat
open Go Go.Nm Go.Proofs

section
variable {rb : Nat} {rows : DR} {syn : Nat} {F L : List Assn} {H : Heap} {K : Value → Heap → Prop}

theorem SameInts_spec {H : Heap} {a b : Option Addr} {c d : Nat} {xs ys : List Int} (ha : rdS H a (xs.map I64)) (hb : rdS H b (ys.map I64)) (hl : xs.length ≤ 1099511627776) :
    CallQ Tryz.prog 32 #[.slice a xs.length c, .slice b ys.length d] H (.bool (decide (xs = ys))) := by
  unfold CallQ
  refine SameInts.call ?_
  unfold SameInts.code
  refine ⟨fun hc => ?_, fun hc => ?_⟩
  · have : xs.length ≠ ys.length := by simp at hc; omega
    refine ⟨?_, rfl⟩
    rw [decide_eq_false (fun e => this (by rw [e]))]
  · have hlen : xs.length = ys.length := by simp at hc; omega
    refine ⟨fun i H' => H' = H ∧ ∃ k : Nat, i = k ∧ k ≤ xs.length ∧ xs.take k = ys.take k, fun i _ => xs.length - i.toNat, ⟨rfl, 0, rfl, Nat.zero_le _, rfl⟩, ?_⟩
    rintro i H' ⟨rfl, k, rfl, hk, ht⟩
    unfold SameInts.l1
    refine ⟨fun hc2 => ?_, fun hc2 => ?_⟩
    · have hlt : k < xs.length := by simpa using hc2
      have h1 := ha.at hlt
      have h2 := hb.at (j := k) (by omega)
      have e3 : IntKind.i64.wrap ((k : Int) + 1) = ((k + 1 : Nat) : Int) := w64 (by omega) (by omega)
      refine ⟨⟨by omega, by omega⟩, _, _, h1.1, _, h1.2, ⟨by omega, by omega⟩, _, _, h2.1, _, h2.2, fun hc3 => ?_, fun hc3 => ?_⟩
      · have : xs[k] ≠ ys[k] := by simpa using hc3
        refine ⟨?_, rfl⟩
        rw [decide_eq_false (fun e => this (by simp [e]))]
      · have : xs[k] = ys[k] := by simpa using hc3
        rw [e3]
        refine ⟨⟨rfl, k + 1, rfl, hlt, ?_⟩, by simp only [Int.toNat_natCast]; omega⟩
        rw [List.take_succ_eq_append_getElem hlt, List.take_succ_eq_append_getElem (by omega), ht, this]
    · have : k = xs.length := by
        have : ¬ ((k : Int) < xs.length) := by simpa using hc2
        omega
      subst this
      rw [List.take_of_length_le (Nat.le_refl _), List.take_of_length_le (by omega)] at ht
      exact ⟨by rw [decide_eq_true ht], rfl⟩

theorem SameBytes_spec {H : Heap} {a b : Option Addr} {c d : Nat} {xs ys : List Int} (ha : rdS H a (xs.map U8)) (hb : rdS H b (ys.map U8)) (hl : xs.length ≤ 1099511627776) :
    CallQ Tryz.prog 18 #[.slice a xs.length c, .slice b ys.length d] H (.bool (decide (xs = ys))) := by
  unfold CallQ
  refine SameBytes.call ?_
  unfold SameBytes.code
  refine ⟨fun hc => ?_, fun hc => ?_⟩
  · have : xs.length ≠ ys.length := by simp at hc; omega
    refine ⟨?_, rfl⟩
    rw [decide_eq_false (fun e => this (by rw [e]))]
  · have hlen : xs.length = ys.length := by simp at hc; omega
    refine ⟨fun i H' => H' = H ∧ ∃ k : Nat, i = k ∧ k ≤ xs.length ∧ xs.take k = ys.take k, fun i _ => xs.length - i.toNat, ⟨rfl, 0, rfl, Nat.zero_le _, rfl⟩, ?_⟩
    rintro i H' ⟨rfl, k, rfl, hk, ht⟩
    unfold SameBytes.l1
    refine ⟨fun hc2 => ?_, fun hc2 => ?_⟩
    · have hlt : k < xs.length := by simpa using hc2
      have h1 := ha.at hlt
      have h2 := hb.at (j := k) (by omega)
      have e3 : IntKind.i64.wrap ((k : Int) + 1) = ((k + 1 : Nat) : Int) := w64 (by omega) (by omega)
      refine ⟨⟨by omega, by omega⟩, _, _, h1.1, _, h1.2, ⟨by omega, by omega⟩, _, _, h2.1, _, h2.2, fun hc3 => ?_, fun hc3 => ?_⟩
      · have : xs[k] ≠ ys[k] := by simpa using hc3
        refine ⟨?_, rfl⟩
        rw [decide_eq_false (fun e => this (by simp [e]))]
      · have : xs[k] = ys[k] := by simpa using hc3
        rw [e3]
        refine ⟨⟨rfl, k + 1, rfl, hlt, ?_⟩, by simp only [Int.toNat_natCast]; omega⟩
        rw [List.take_succ_eq_append_getElem hlt, List.take_succ_eq_append_getElem (by omega), ht, this]
    · have : k = xs.length := by
        have : ¬ ((k : Int) < xs.length) := by simpa using hc2
        omega
      subst this
      rw [List.take_of_length_le (Nat.le_refl _), List.take_of_length_le (by omega)] at ht
      exact ⟨by rw [decide_eq_true ht], rfl⟩

theorem CopyBytes_own {a : Option Addr} {c : Nat} {bs : List Int} (h : SatL H L) (ha : ∀ H, SatL H L → rdS H a (bs.map U8)) (hl : bs.length ≤ 1099511627776)
    (k : ∀ a' c' H', SatL H' (slA 5 1 a' bs.length c' (bs.map U8) :: L) → K (.slice a' bs.length c') H') : CallF Tryz.prog 23 #[.slice a bs.length c] H K := by
  refine CopyBytes.call ?_
  unfold CopyBytes.code
  refine h.al fun b _ h => ?_
  have hr := ha _ h.tl
  have h1 := SatL.sl_pt (cs := []) h 1 0 rfl
  refine SatL.append (m := bs.length) sl32 h1 0 rfl hr (by simp) (plain_map (fun _ => rfl) _) (by omega) (by omega) fun a' c' H' h2 => ⟨_, _, _, rfl, ?_⟩
  have h3 : SatL H' (slA 5 1 a' (0 + bs.length) c' ([] ++ bs.map U8) :: L) := h2
  rw [Nat.zero_add, List.nil_append] at h3
  have := k a' c' H' h3
  simpa using this

theorem RFiles_spec (hB : rows.length ≤ 1099511627776) (h : SatL H (refX rb rows syn :: F))
    (k : ∀ a c H', SatL H' (slA 3 1 a (filesOf rows).length c ((filesOf rows).map I64) :: refX rb rows syn :: F) → K (.slice a (filesOf rows).length c) H') :
    CallF Tryz.prog 31 #[.pointer (some ⟨rb, 0, none⟩)] H K := by
  obtain ⟨ra, rc, h⟩ := refX_open h
  refine R10_Disk_Files.call ?_
  unfold R10_Disk_Files.code
  refine h.al fun b _ h => ?_
  have e0 : filesOf (rows.take 0) = [] := by rw [List.take_zero, filesOf_nil]
  have h1 := SatL.sl_pt (cs := []) h 1 0 rfl
  refine ⟨fun oa on oc i H' => ∃ j : Nat, i = j ∧ j ≤ rows.length ∧ on = (filesOf (rows.take j)).length ∧
      SatL H' (slA 3 1 oa (filesOf (rows.take j)).length oc ((filesOf (rows.take j)).map I64) :: cellsA rb [.slice ra rows.length rc, I64 syn] 30 :: slA 108 2 ra rows.length rc (flat encB rows) :: F), fun _ _ _ i _ => rows.length - i.toNat,
    ⟨0, rfl, Nat.zero_le _, by rw [e0]; rfl, by rw [e0]; exact h1⟩, ?_⟩
  rintro oa on oc i H1 ⟨j, rfl, hj, rfl, h⟩
  unfold R10_Disk_Files.l4
  have hfl := filesOf_length_le (rows.take j)
  rw [List.length_take] at hfl
  refine ⟨_, _, _, h.rd 1 rfl _, fun hc => ?_, fun hc => ?_⟩
  · have hlt : j < rows.length := by have := of_decide_eq_true hc; omega
    intro Jn hJ
    have hr := h.sl_rd 2 rfl
    refine ⟨_, _, _, h.rd 1 rfl _, ⟨by omega, by omega⟩, _, _, hr.some encB_len (by omega) hlt, _, hr.el0 encB_len hlt rfl, ?_⟩
    have fin : ∀ oa2 on2 oc2 H', on2 = (filesOf (rows.take (j + 1))).length → SatL H' (slA 3 1 oa2 (filesOf (rows.take (j + 1))).length oc2 ((filesOf (rows.take (j + 1))).map I64) :: cellsA rb [.slice ra rows.length rc, I64 syn] 30 :: slA 108 2 ra rows.length rc (flat encB rows) :: F) → Jn oa2 on2 oc2 H' := by
      intro oa2 on2 oc2 H' e h'
      refine hJ _ _ _ _ ?_
      unfold R10_Disk_Files.r1
      rw [w64 (x := (j : Int) + 1) (by omega) (by omega)]
      exact ⟨⟨j + 1, rfl, hlt, e, h'⟩, by simp only [Int.toNat_natCast]; omega⟩
    refine ⟨fun there k H' => H' = H1 ∧ ∃ q : Nat, k = q ∧ q ≤ (filesOf (rows.take j)).length ∧ (there = true ↔ rows[j].1 ∈ (filesOf (rows.take j)).take q), fun _ k _ => (filesOf (rows.take j)).length - k.toNat, ⟨rfl, 0, rfl, Nat.zero_le _, by simp⟩, ?_⟩
    rintro there k0 H' ⟨rfl, q, rfl, hq, hth⟩
    unfold R10_Disk_Files.l3
    refine ⟨fun hc2 => ?_, fun hc2 => ?_⟩
    · have hql : q < (filesOf (rows.take j)).length := by have := of_decide_eq_true hc2; omega
      have hr3 := (h.sl_rd 0 rfl).at (j := q) hql
      refine ⟨fun _ => ⟨by omega, by omega⟩, _, _, fun _ => hr3.1, _, fun _ => hr3.2, ?_⟩
      rw [w64 (x := (q : Int) + 1) (by omega) (by omega)]
      refine ⟨⟨rfl, q + 1, rfl, hql, ?_⟩, by simp only [Int.toNat_natCast]; omega⟩
      rw [List.take_succ_eq_append_getElem hql, List.mem_append, List.mem_singleton, ← hth, Bool.or_eq_true, decide_eq_true_eq]
      exact ⟨fun hh => hh.imp id Eq.symm, fun hh => hh.imp id Eq.symm⟩
    · obtain rfl : q = (filesOf (rows.take j)).length := by have := of_decide_eq_false hc2; omega
      rw [List.take_length] at hth
      refine ⟨fun ht => ?_, fun ht => ?_⟩
      · have e := filesOf_there hlt (hth.1 ht)
        exact fin _ _ _ _ (by rw [e]) (by rw [e]; exact h)
      have hni : rows[j].1 ∉ filesOf (rows.take j) := fun hh => by rw [hth.2 hh] at ht; cases ht
      refine h.al fun b3 _ h => ?_
      refine SatL.append (m := 1) (ws := [I64 rows[j].1]) sl44 h 1 rfl (h.ce_rd 0 rfl) rfl rfl (by omega) (by omega) fun a2 c2 H4 h => ⟨_, _, _, rfl, ?_⟩
      have h2 : SatL H4 (slA 3 1 a2 ((filesOf (rows.take j)).length + 1) c2 ((filesOf (rows.take j) ++ rows[j].1 :: []).map I64) :: cellsA rb [.slice ra rows.length rc, I64 syn] 30 :: slA 108 2 ra rows.length rc (flat encB rows) :: F) := by
        rw [List.map_append]; exact h.ordt [1, 2, 3] 4 (by decide) (by decide)
      refine ⟨fun k H' => ∃ P S : List Int, k = P.length ∧ filesOf (rows.take j) = P ++ S ∧ (∀ x ∈ S, rows[j].1 < x) ∧
        SatL H' (slA 3 1 a2 ((filesOf (rows.take j)).length + 1) c2 ((P ++ rows[j].1 :: S).map I64) :: cellsA rb [.slice ra rows.length rc, I64 syn] 30 :: slA 108 2 ra rows.length rc (flat encB rows) :: F), fun k _ => k.toNat, ⟨filesOf (rows.take j), [], rfl, by simp, fun _ hx => (by cases hx), h2⟩, ?_⟩
      rintro k H5 ⟨P, S, rfl, hPS, hS, h⟩
      unfold R10_Disk_Files.l2
      have hlen : (filesOf (rows.take j)).length = P.length + S.length := by rw [hPS, List.length_append]
      have hri := filesOf_rising (rows.take j)
      rcases List.eq_nil_or_concat P with hP | ⟨P', a, hP⟩
      · subst hP
        refine ⟨fun hf => by simp at hf, 0, 0, fun hf => by simp at hf, 0, fun hf => by simp at hf, fun hf => by simp at hf, 0, 0, fun hf => by simp at hf, 0, fun hf => by simp at hf, fun hf => by simp at hf, fun _ => ?_⟩
        have e := filesOf_new hlt hni hPS (fun _ hx => (by cases hx)) hS
        have e2 : (filesOf (rows.take (j + 1))).length = (filesOf (rows.take j)).length + 1 := by rw [← e, hlen]; simp
        exact fin _ _ _ _ e2.symm (by rw [e2, ← e]; exact h)
      · rw [List.concat_eq_append] at hP
        subst hP
        have hPl : (P' ++ [a]).length = P'.length + 1 := List.length_append
        have ew : IntKind.i64.wrap (((P' ++ [a]).length : Int) - 1) = (P'.length : Int) := by rw [w64 (by omega) (by omega)]; omega
        rw [ew]
        have hl3 : (P' ++ [a] ++ rows[j].1 :: S).length = (filesOf (rows.take j)).length + 1 := by rw [hlen]; simp; omega
        have hr4 := (h.sl_rd 0 rfl).at (j := P'.length) (by rw [hl3]; omega)
        have hr5 := (h.sl_rd 0 rfl).at (j := (P' ++ [a]).length) (by rw [hl3]; omega)
        have g4 : (P' ++ [a] ++ rows[j].1 :: S)[P'.length]'(by rw [hl3]; omega) = a := by simp
        have g5 : (P' ++ [a] ++ rows[j].1 :: S)[(P' ++ [a]).length]'(by rw [hl3]; omega) = rows[j].1 := by
          rw [List.getElem_append_right (Nat.le_refl _)]; simp
        rw [g4] at hr4
        rw [g5] at hr5
        refine ⟨fun _ => ⟨by omega, by omega⟩, _, _, fun _ => hr4.1, _, fun _ => hr4.2, fun _ => ⟨by omega, by omega⟩, _, _, fun _ => hr5.1, _, fun _ => hr5.2, fun hc3 => ?_, fun hc3 => ?_⟩
        · have hlt2 : rows[j].1 < a := by simp only [Bool.and_eq_true, decide_eq_true_eq] at hc3; exact hc3.2
          refine ⟨⟨by omega, by omega⟩, _, _, hr5.1, _, hr5.2, ⟨by omega, by omega⟩, _, _, hr4.1, _, hr4.2, ⟨by omega, by omega⟩, _, _, hr4.1, ?_⟩
          have s1 := h.sl_set 0 rfl P'.length [I64 rows[j].1] (by rw [List.length_map, hl3]; simp only [List.length_singleton]; omega) (by simp)
          rw [setsL_map1] at s1
          refine ⟨s1.2.1, ?_⟩
          rintro H6 rfl
          have h6 := s1.2.2
          have s2 := h6.sl_set 0 rfl (P' ++ [a]).length [I64 a] (by rw [List.length_map, List.length_set, hl3]; simp only [List.length_singleton]; omega) (by simp)
          rw [setsL_map1, hPl, List.append_assoc, List.singleton_append, swap_mid] at s2
          refine ⟨⟨by omega, by omega⟩, _, _, s2.1, ?_⟩
          rw [hPl]
          refine ⟨s2.2.1, ?_⟩
          rintro H7 rfl
          have h7 := s2.2.2
          refine ⟨⟨P', a :: S, rfl, by rw [hPS]; simp, fun x hx => ?_, h7⟩, by simp only [Int.toNat_natCast]; omega⟩
          rcases List.mem_cons.1 hx with rfl | hx
          · exact hlt2
          · exact hS x hx
        · have hge : ¬ rows[j].1 < a := fun hh => by
            have : (0 : Int) < ((P' ++ [a]).length : Int) := by rw [hPl]; omega
            simp [this, hh] at hc3
          have hne : rows[j].1 ≠ a := fun e => hni (by rw [hPS, e]; simp)
          have e := filesOf_new hlt hni hPS (fun x hx => by
            rw [hPS, List.append_assoc, List.pairwise_append] at hri
            rcases List.mem_append.1 hx with hx | hx
            · have := hri.2.2 x hx a (by simp); omega
            · rw [List.mem_singleton] at hx; subst hx; omega) hS
          have e2 : (filesOf (rows.take (j + 1))).length = (filesOf (rows.take j)).length + 1 := by rw [← e]; exact hl3
          exact fin _ _ _ _ e2.symm (by rw [e2, ← e]; exact h)
  · obtain rfl : j = rows.length := by have := of_decide_eq_false hc; omega
    rw [List.take_length] at h ⊢
    exact k _ _ _ ((refX_shut (F := _ :: F) (h.ordt [1, 2, 0] 3 (by decide) (by decide))).ordt [1, 0] 2 (by decide) (by decide))
end
end Go.Proofs.YtomdcdfcdeaabaaGreat
