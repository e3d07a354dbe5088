/-
  The reference's functions, the rest.
-/
import Derived.Test.YtfgabhogcbmhoaaH3
set_option linter.unusedVariables false
set_option linter.unusedSimpArgs false
namespace Go.Proofs.Ytfgabhogcbmhoaa
open Go Go.Nm Go.Proofs

section
variable {hb : Nat} {s : HS} {F : List Assn} {H : Heap} {K : Value → Heap → Prop} {next most : Int} {rows : RowL} {ra : Option Addr} {rn rc : Nat}

theorem ROffer_spec {first : Int} {ia : Option Addr} {ic : Nat} {items : List Int} {ra : Option Addr} {rn rc : Nat} (h : SatL H (refC hb s.next s.most ra rn rc :: rowsA ra rn rc s.rows :: F)) (ok : s.Ok) (hn : s.next ≤ 1125899906842624)
    (hF : ∀ H, SatL H F → rdS H ia (items.map I64)) (hlen : items.length ≤ 1000000)
    (k : ∀ a c H' ra rn rc, SatL H' (slA 2 1 a (s.offer first items).2.1.length c ((s.offer first items).2.1.map I64) :: refC hb (s.offer first items).1.next s.most ra rn rc :: rowsA ra rn rc (s.offer first items).1.rows :: F) →
      K (.tuple #[.slice a (s.offer first items).2.1.length c, I64 (s.offer first items).2.2]) H') :
    CallF Try.prog 13 #[.pointer (some ⟨hb, 0, none⟩), I64 first, .slice ia items.length ic] H K := by
  refine ROffer.call ?_
  unfold ROffer.code
  have hm1 := ok.most1
  have hm2 := ok.most2
  have hn0 := ok.next0
  have h0 : SatL _ (slA 2 1 (some ⟨H.size, 0, none⟩) 0 0 [] :: _) := SatL.sl_pt (cs := []) (h.push (.cells #[] 2)) 1 0 rfl
  refine ⟨fun hc => ?_, fun hc => ?_⟩
  · simp only [Bool.or_eq_true, decide_eq_true_eq] at hc
    have e : s.offer first items = (s, [], (items.length : Int)) := by unfold HS.offer; rw [if_pos hc]
    rw [e] at k
    exact k _ 0 _ _ _ _ h0
  · simp only [Bool.or_eq_false_iff, decide_eq_false_iff_not] at hc
    have e : s.offer first items = ({ s with next := (pop s.next (offerL s.next s.most first items (s.rows, 0)).1).2.1, rows := (pop s.next (offerL s.next s.most first items (s.rows, 0)).1).2.2 },
        (pop s.next (offerL s.next s.most first items (s.rows, 0)).1).1, (offerL s.next s.most first items (s.rows, 0)).2) := by
      unfold HS.offer; rw [if_neg (by omega)]
    rw [e] at k
    refine ⟨fun refused t25 H' => ∃ (j : Nat) (rows : RowL) (ra : Option Addr) (rn rc : Nat), t25 = j ∧ j ≤ items.length ∧ RowsOk s.next s.next s.most rows ∧ 0 ≤ refused ∧ refused ≤ j ∧
      offerL s.next s.most (first + j) (items.drop j) (rows, refused) = offerL s.next s.most first items (s.rows, 0) ∧ SatL H' (slA 2 1 (some ⟨H.size, 0, none⟩) 0 0 [] :: refC hb s.next s.most ra rn rc :: rowsA ra rn rc rows :: F),
      fun _ i _ => items.length - i.toNat, ⟨0, s.rows, ra, rn, rc, rfl, Nat.zero_le _, ok.rows.weaken (by omega) (Int.le_refl _), Int.le_refl _, by simp, by simp, h0⟩, ?_⟩
    rintro refused t25 H1 ⟨j, rows, ra, rn, rc, rfl, hj, hok, hr0, hr1, hoff, h1⟩
    obtain rfl := rows_len h1 2 rfl
    have hlen2 := hok.length
    unfold ROffer.l3
    refine ⟨fun hc2 => ?_, fun hc2 => ?_⟩
    · have hlt : j < items.length := by simpa using hc2
      have hrd := (hF H1 h1.tl.tl.tl).at hlt
      have e1 : IntKind.i64.wrap (first + j) = first + j := w64 (by omega) (by omega)
      have e2 : IntKind.i64.wrap (s.next + s.most) = s.next + s.most := w64 (by omega) (by omega)
      have e3 : IntKind.i64.wrap ((j : Int) + 1) = ((j + 1 : Nat) : Int) := w64 (by omega) (by omega)
      have e4 : IntKind.i64.wrap (refused + 1) = refused + 1 := w64 (by omega) (by omega)
      have hdrop : items.drop j = items[j] :: items.drop (j + 1) := List.drop_eq_getElem_cons hlt
      rw [hdrop, offerL] at hoff
      have hok2 := offer1_ok (n := first + j) (v := items[j]) (s := (rows, refused)) hok
      have hre := offer1_ref (next := s.next) (most := s.most) (n := first + j) (v := items[j]) (s := (rows, refused)) hr0
      intro Jn hJ
      have close : ∀ ra rn rc H2, SatL H2 (slA 2 1 (some ⟨H.size, 0, none⟩) 0 0 [] :: refC hb s.next s.most ra rn rc :: rowsA ra rn rc (offer1 s.next s.most (first + j) items[j] (rows, refused)).1 :: F) →
          Jn (offer1 s.next s.most (first + j) items[j] (rows, refused)).2 H2 := by
        intro ra rn rc H2 h2
        refine hJ _ _ ?_
        unfold ROffer.r1
        rw [e3]
        exact ⟨⟨j + 1, _, _, _, _, rfl, hlt, hok2, by simp only at hre; omega, by simp only at hre; omega, by rw [← hoff]; congr 1; omega, h2⟩, by simp only [Int.toNat_natCast]; omega⟩
      have hhas := Rhas_spec (n := first + j) h1 1 2 rfl rfl (by omega)
      simp only [e1]
      refine ⟨_, h1.rd 1 rfl _, _, fun _ => hhas, fun hc3 => ?_, fun hc3 => ?_⟩
      · have eo : offer1 s.next s.most (first + j) items[j] (rows, refused) = (rows, refused) := by unfold offer1; rw [if_pos (by simpa using hc3)]
        rw [eo] at close
        exact close _ _ _ _ h1
      · have hc4 : ¬ (first + j < s.next ∨ (mlook (first + j) rows).isSome = true) := by
          simp only [Bool.or_eq_false_iff, decide_eq_false_iff_not] at hc3
          rw [hc3.2]; simp only [Bool.false_eq_true, or_false]; exact hc3.1
        refine ⟨_, h1.rd 1 rfl _, _, h1.rd 1 rfl _, ?_⟩
        rw [e2, e4]
        refine ⟨fun hc5 => ?_, fun hc5 => ⟨⟨by omega, by omega⟩, _, _, hrd.1, _, hrd.2, ?_⟩⟩
        · simp only [decide_eq_true_eq] at hc5
          have eo : offer1 s.next s.most (first + j) items[j] (rows, refused) = (rows, refused + 1) := by unfold offer1; rw [if_neg hc4, if_pos hc5]
          rw [eo] at close
          exact close _ _ _ _ h1
        · simp only [decide_eq_false_iff_not] at hc5
          have eo : offer1 s.next s.most (first + j) items[j] (rows, refused) = (ins (first + j) items[j] rows, refused) := by unfold offer1; rw [if_neg hc4, if_neg hc5]
          rw [eo] at close
          have hml : mlook (first + j) rows = none := by
            cases hm : mlook (first + j) rows with
            | none => rfl
            | some u => exact absurd (.inr (by rw [hm]; rfl)) hc4
          refine Rput_spec (F := slA 2 1 (some ⟨H.size, 0, none⟩) 0 0 [] :: F) (h1.ordt [1, 2, 0] 3 (by decide) (by decide)) hok.rising hml (by omega) fun ra rc H2 h2 => ⟨rfl, close _ _ _ _ (h2.ordt [2, 0, 1] 3 (by decide) (by decide))⟩
    · have hge : j = items.length := by
        have : ¬ ((j : Int) < (items.length : Int)) := by simpa using hc2
        omega
      subst hge
      simp only [List.drop_length, offerL] at hoff
      rw [← hoff] at k
      simp only at k
      refine ⟨fun qa qn qc H' => ∃ (got : List Int) (next : Int) (rows' : RowL) (ra : Option Addr) (rn rc : Nat), got.length = qn ∧ Rising rows' ∧ (∀ p ∈ rows', next ≤ p.1) ∧ (pop s.next rows).1 = got ++ (pop next rows').1 ∧ (pop s.next rows).2 = (pop next rows').2 ∧
        0 ≤ next ∧ next + rows'.length ≤ s.next + rows.length ∧ got.length + rows'.length = rows.length ∧ SatL H' (slA 2 1 qa qn qc (got.map I64) :: refC hb next s.most ra rn rc :: rowsA ra rn rc rows' :: F),
        fun _ n _ _ => rows.length - n, ⟨[], s.next, rows, ra, _, rc, rfl, hok.rising, fun p hp => (hok.inb p hp).1, by simp, by simp, by omega, by omega, by simp, h1⟩, ?_⟩
      rintro qa qn qc H2 ⟨got, next, rows', ra', rn', rc', rfl, hri, hge, hp1, hp2, hn1, hn2, hgl, h2⟩
      obtain rfl := rows_len h2 2 rfl
      have hrd := h2.sl_rd 2 rfl
      unfold ROffer.l2
      refine ⟨_, _, _, h2.rd 1 rfl _, ?_⟩
      have e5 : IntKind.i64.wrap (next + 1) = next + 1 := w64 (by omega) (by omega)
      have done : pop next rows' = ([], next, rows') → K (.tuple #[.slice qa got.length qc, I64 refused]) H2 := by
        intro ep
        rw [ep] at hp1 hp2
        rw [List.append_nil] at hp1
        rw [hp1, hp2] at k
        exact k _ _ _ _ _ _ h2
      cases rows' with
      | nil =>
        have hno : ¬ (decide (0 < ((([] : RowL).length : Nat) : Int)) = true) := by simp
        refine ⟨fun _ => trivial, none, 0, 0, fun hc => (hno hc).elim, fun hc => (hno hc).elim, 0, 0, fun hc => (hno hc).elim, 0, fun hc => (hno hc).elim, fun hc => trivial, 0, fun hc => (hno hc).elim, fun hc => (hno (Bool.and_eq_true _ _ ▸ hc).1).elim, fun _ => done rfl⟩
      | cons p r =>
        obtain ⟨n, v⟩ := p
        have hs0 := hrd.some enc2_len (by omega) (k := 0) (by simp)
        refine ⟨fun _ => trivial, _, _, _, fun _ => h2.rd 1 rfl _, fun _ => ⟨by omega, by simp only [List.length_cons]; omega⟩, _, _, fun _ => hs0, n, fun _ => hrd.el0 enc2_len (k := 0) (by simp) rfl, fun _ => trivial, _, fun _ => h2.rd 1 rfl _, fun hc3 => ?_, fun hc3 => done ?_⟩
        · obtain rfl : n = next := by simp at hc3; exact hc3
          refine ⟨_, _, _, h2.rd 1 rfl _, ⟨by omega, by simp only [List.length_cons]; omega⟩, _, _, hs0, v, hrd.el enc2_len (k := 0) (by simp) 1 rfl, ?_⟩
          simp only [List.length_cons] at hn2 hgl
          refine SatL.append1 sl32 h2 0 rfl (by rfl) (by rfl) (by omega) (by omega) fun a' c' H4 h4 => ?_
          have h4 : SatL H4 (slA 2 1 a' (got.length + 1) c' (got.map I64 ++ [I64 v]) :: refC hb n s.most ra' (r.length + 1) rc' :: rowsA ra' (r.length + 1) rc' ((n, v) :: r) :: F) := h4
          have hnc := h4.sl_nc 2 rfl
          refine ⟨_, _, _, rfl, _, _, _, h4.rd 1 rfl _, ⟨by omega, by omega, by omega⟩, h4.can 1 rfl _ _ (by simp), ?_⟩
          have h5 : SatL _ (_ :: cellsA hb [I64 n, I64 s.most, .slice (slB ra' 1 rc' 2) (r.length + 1 - 1) (rc' - 1)] 44 :: rowsA ra' (r.length + 1) rc' ((n, v) :: r) :: F) := h4.set 1 rfl (0 + 2) [.slice (slB ra' 1 rc' 2) (r.length + 1 - 1) (rc' - 1)]
          refine ⟨_, h5.rd 1 rfl _, h5.can 1 rfl _ _ (by simp), ?_⟩
          rw [e5]
          have h6 : SatL _ (_ :: refC hb (n + 1) s.most (slB ra' 1 rc' 2) (r.length + 1 - 1) (rc' - 1) :: rowsA ra' (r.length + 1) rc' ((n, v) :: r) :: F) := h5.set 1 rfl 0 [I64 (n + 1)]
          have h7 : SatL _ (_ :: refC hb (n + 1) s.most (slB ra' 1 rc' 2) (r.length + 1 - 1) (rc' - 1) :: rowsA (slB ra' 1 rc' 2) (r.length + 1 - 1) (rc' - 1) r :: F) := h6.sl_drop 2 rfl 1 (by omega)
          simp only [pop, if_true] at hp1 hp2
          refine ⟨⟨got ++ [v], n + 1, r, slB ra' 1 rc' 2, r.length + 1 - 1, rc' - 1, by simp, (List.pairwise_cons.1 hri).2, fun p hp => ?_, by rw [hp1]; simp, hp2, by omega, by omega, by simp; omega, ?_⟩, by show rows.length - (got.length + 1) < rows.length - got.length; omega⟩
          · have := (List.pairwise_cons.1 hri).1 p hp; simp only at this; omega
          · rw [List.map_append]; exact h7
        · have en : n ≠ next := by simp at hc3; exact hc3
          simp only [pop, if_neg en]

theorem RWaiting_spec (h : SatL H (refC hb next most ra rn rc :: rowsA ra rn rc rows :: F)) (hl : rows.length ≤ 1000000)
    (k : ∀ a c H', SatL H' (slA 2 1 a rows.length c ((keysOf rows).map I64) :: refC hb next most ra rn rc :: rowsA ra rn rc rows :: F) → K (.slice a rows.length c) H') :
    CallF Try.prog 19 #[.pointer (some ⟨hb, 0, none⟩)] H K := by
  obtain rfl := rows_len h 1 rfl
  refine RWaiting.call ?_
  unfold RWaiting.code
  refine ⟨fun la ln lc i H' => ∃ k : Nat, i = k ∧ k = ln ∧ k ≤ rows.length ∧ SatL H' (slA 2 1 la k lc ((keysOf (rows.take k)).map I64) :: refC hb next most ra rows.length rc :: rowsA ra rows.length rc rows :: F),
    fun _ _ _ i _ => rows.length - i.toNat, ⟨0, rfl, rfl, Nat.zero_le _, SatL.sl_pt (cs := []) (h.push (.cells #[] 2)) 1 0 rfl⟩, ?_⟩
  rintro la ln lc i H2 ⟨j, rfl, rfl, hj, h2⟩
  unfold RWaiting.l1
  have hrd := h2.sl_rd 2 rfl
  refine ⟨_, _, _, h2.rd 1 rfl _, fun hc => ?_, fun hc => ?_⟩
  · have hlt : j < rows.length := by simpa using hc
    have e3 : IntKind.i64.wrap ((j : Int) + 1) = ((j + 1 : Nat) : Int) := w64 (by omega) (by omega)
    refine ⟨_, _, _, h2.rd 1 rfl _, ⟨by omega, by omega⟩, _, _, hrd.some enc2_len (by omega) hlt, _, hrd.el0 enc2_len hlt rfl, ?_⟩
    refine h2.append1 sl32 0 rfl (by rfl) (by rfl) (by omega) (by omega) fun a' c' H3 h3 => ⟨_, _, _, rfl, ?_⟩
    rw [e3]
    refine ⟨⟨j + 1, rfl, rfl, hlt, ?_⟩, by simp only [Int.toNat_natCast]; omega⟩
    rw [List.take_succ_eq_append_getElem hlt, keysOf, List.map_append, List.map_append]
    exact h3
  · obtain rfl : j = rows.length := by
      have : ¬ ((j : Int) < rows.length) := by simpa using hc
      omega
    rw [List.take_of_length_le (Nat.le_refl _)] at h2
    exact k _ _ _ h2

theorem RDrain_spec (h : SatL H (refC hb next most ra rn rc :: rowsA ra rn rc rows :: F)) (hl : rows.length ≤ 1000000)
    (k : ∀ a c H', SatL H' (slA 2 1 a rows.length c (rows.map fun p => I64 p.2) :: refC hb next most none 0 0 :: rowsA none 0 0 [] :: F) → K (.slice a rows.length c) H') :
    CallF Try.prog 16 #[.pointer (some ⟨hb, 0, none⟩)] H K := by
  obtain rfl := rows_len h 1 rfl
  refine RDrain.call ?_
  unfold RDrain.code
  refine ⟨fun la ln lc i H' => ∃ k : Nat, i = k ∧ k = ln ∧ k ≤ rows.length ∧ SatL H' (slA 2 1 la k lc ((rows.take k).map fun p => I64 p.2) :: refC hb next most ra rows.length rc :: rowsA ra rows.length rc rows :: F),
    fun _ _ _ i _ => rows.length - i.toNat, ⟨0, rfl, rfl, Nat.zero_le _, SatL.sl_pt (cs := []) (h.push (.cells #[] 2)) 1 0 rfl⟩, ?_⟩
  rintro la ln lc i H2 ⟨j, rfl, rfl, hj, h2⟩
  unfold RDrain.l1
  have hrd := h2.sl_rd 2 rfl
  refine ⟨_, _, _, h2.rd 1 rfl _, fun hc => ?_, fun hc => ?_⟩
  · have hlt : j < rows.length := by simpa using hc
    have e3 : IntKind.i64.wrap ((j : Int) + 1) = ((j + 1 : Nat) : Int) := w64 (by omega) (by omega)
    refine ⟨_, _, _, h2.rd 1 rfl _, ⟨by omega, by omega⟩, _, _, hrd.some enc2_len (by omega) hlt, _, hrd.el enc2_len hlt 1 rfl, ?_⟩
    refine h2.append1 sl32 0 rfl (by rfl) (by rfl) (by omega) (by omega) fun a' c' H3 h3 => ⟨_, _, _, rfl, ?_⟩
    rw [e3]
    refine ⟨⟨j + 1, rfl, rfl, hlt, ?_⟩, by simp only [Int.toNat_natCast]; omega⟩
    rw [List.take_succ_eq_append_getElem hlt, List.map_append]
    exact h3
  · obtain rfl : j = rows.length := by
      have : ¬ ((j : Int) < rows.length) := by simpa using hc
      omega
    rw [List.take_of_length_le (Nat.le_refl _)] at h2
    refine ⟨h2.can 1 rfl _ _ (by simp), ?_⟩
    have h3 : SatL _ (_ :: refC hb next most none 0 0 :: _) := h2.set 1 rfl (0 + 2) [.slice none 0 0]
    exact k _ _ _ (SatL.ordt (SatL.sl_nil h3 56 2) [1, 2, 0] 4 (by decide) (by decide))
end
end Go.Proofs.Ytfgabhogcbmhoaa
