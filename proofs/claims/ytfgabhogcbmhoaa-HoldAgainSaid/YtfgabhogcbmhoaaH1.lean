/-
  The buffer's functions, walked.
-/
import Derived.Test.YtfgabhogcbmhoaaKS
import Derived.Test.YtfgabhogcbmhoaaHP
set_option linter.unusedVariables false
set_option linter.unusedSimpArgs false
namespace Go.Nm
open Go
theorem w64 {x : Int} (h1 : -9223372036854775808 ≤ x) (h2 : x ≤ 9223372036854775807) : IntKind.i64.wrap x = x := IntWalk.i64_in x (by omega)
def zeroAt (P : Program) (e : TypeId) : Option Value := match P.info? e with | some i => i.zero | none => none
theorem mapT_of {α : Type} {P : Program} {t k e : Nat} {venc : α → Value} {z : α} (h1 : P.underlying t = some (.map k e)) (h2 : zeroAt P e = some (venc z)) : MapT P t k e venc z := by
  refine ⟨h1, ?_⟩
  unfold zeroAt at h2
  split at h2
  · rename_i i hi; exact ⟨i, hi, h2⟩
  · cases h2
/-- Cell j of a row of plain values. -/
theorem rdS.at {α : Type} {H : Heap} {a : Option Addr} {enc : α → Value} {xs : List α} (h : rdS H a (xs.map enc)) {j : Nat} (hj : j < xs.length) :
    a = some ⟨adrB a, adrO a, none⟩ ∧ cellAt H (adrB a) (adrO a + j) = some (enc xs[j]) := h j _ (by rw [lget_map, lget_some hj]; rfl)
theorem plain_ints (k : IntKind) : ∀ (l : List Int), plainCells (l.map (Value.int k)) = true
  | [] => rfl
  | a :: r => plain_ints k r
end Go.Nm
namespace Go.Proofs.Ytfgabhogcbmhoaa
open Go Go.Nm Go.Proofs

abbrev I64 := Value.int .i64
theorem sl32 : SlT Try.prog 32 2 1 8 := slT_of (by kernel_rfl)
theorem mt49 : MapT Try.prog 49 2 2 I64 0 := mapT_of Try.underlying49 (by kernel_rfl)
theorem ko2 : KeyOK Try.prog 2 I64 := keyOK_int Try.underlying2

abbrev holdC (hb mb : Nat) (next most : Int) : Assn := cellsA hb [I64 next, I64 most, .map (some mb)] 51
abbrev mapI (mb : Nat) (l : RowL) : Assn := mapA I64 I64 mb l

section
variable {hb mb : Nat} {s : HS} {F : List Assn} {H : Heap} {K : Value → Heap → Prop}

theorem New_spec {next most : Int} (h : SatL H F)
    (k1 : next < 0 ∨ 1099511627776 < next ∨ most < 1 ∨ 256 < most → K (.tuple #[.pointer none, I64 11]) H)
    (k2 : ∀ hb mb H', HS.Ok ⟨next, most, []⟩ → next ≤ 1099511627776 → SatL H' (holdC hb mb next most :: mapI mb [] :: F) → K (.tuple #[.pointer (some ⟨hb, 0, none⟩), I64 0]) H') :
    CallF Try.prog 9 #[I64 next, I64 most] H K := by
  refine New.call ?_
  unfold New.code
  refine ⟨fun hc => k1 ?_, fun hc => ?_⟩
  · simp only [Bool.or_eq_true, decide_eq_true_eq] at hc; omega
  · simp only [Bool.or_eq_false_iff, decide_eq_false_iff_not] at hc
    refine k2 _ H.size _ ⟨by simp only; omega, by simp only; omega, by simp only; omega, ⟨by simp [Rising], by simp⟩⟩ (by omega) ?_
    have h1 := (h.push (.map #[] 0)).mp_new I64 I64
    exact h1.push _

theorem Offer_spec {first : Int} {ia : Option Addr} {ic : Nat} {items : List Int} (h : SatL H (holdC hb mb s.next s.most :: mapI mb s.rows :: F)) (ok : s.Ok) (hn : s.next ≤ 1125899906842624)
    (hF : ∀ H, SatL H F → rdS H ia (items.map I64)) (hlen : items.length ≤ 1000000)
    (k : ∀ a c H', SatL H' (slA 2 1 a (s.offer first items).2.1.length c ((s.offer first items).2.1.map I64) :: holdC hb mb (s.offer first items).1.next s.most :: mapI mb (s.offer first items).1.rows :: F) →
      K (.tuple #[.slice a (s.offer first items).2.1.length c, I64 (s.offer first items).2.2]) H') :
    CallF Try.prog 12 #[.pointer (some ⟨hb, 0, none⟩), I64 first, .slice ia items.length ic] H K := by
  refine Offer.call ?_
  unfold Offer.code
  have hm1 := ok.most1
  have hm2 := ok.most2
  have hn0 := ok.next0
  refine ⟨fun hc => ?_, fun hc => ?_⟩
  · simp only [Bool.or_eq_true, decide_eq_true_eq] at hc
    have e : s.offer first items = (s, [], (items.length : Int)) := by unfold HS.offer; rw [if_pos hc]
    rw [e] at k
    exact k none 0 H (h.sl_nil 2 1)
  · simp only [Bool.or_eq_false_iff, decide_eq_false_iff_not] at hc
    have e : s.offer first items = ({ s with next := (pop s.next (offerL s.next s.most first items (s.rows, 0)).1).2.1, rows := (pop s.next (offerL s.next s.most first items (s.rows, 0)).1).2.2 },
        (pop s.next (offerL s.next s.most first items (s.rows, 0)).1).1, (offerL s.next s.most first items (s.rows, 0)).2) := by
      unfold HS.offer; rw [if_neg (by omega)]
    rw [e] at k
    refine ⟨fun refused t25 H' => ∃ (j : Nat) (rows : RowL), t25 = j ∧ j ≤ items.length ∧ RowsOk s.next s.next s.most rows ∧ 0 ≤ refused ∧ refused ≤ j ∧
      offerL s.next s.most (first + j) (items.drop j) (rows, refused) = offerL s.next s.most first items (s.rows, 0) ∧ SatL H' (holdC hb mb s.next s.most :: mapI mb rows :: F),
      fun _ i _ => items.length - i.toNat, ⟨0, s.rows, rfl, Nat.zero_le _, ok.rows.weaken (by omega) (Int.le_refl _), Int.le_refl _, by simp, by simp, h⟩, ?_⟩
    rintro refused t25 H1 ⟨j, rows, rfl, hj, hok, hr0, hr1, hoff, h1⟩
    unfold Offer.l4
    refine ⟨fun hc2 => ?_, fun hc2 => ?_⟩
    · have hlt : j < items.length := by simpa using hc2
      have hrd := (hF H1 h1.tl.tl).at hlt
      have e1 : IntKind.i64.wrap (first + j) = first + j := w64 (by omega) (by omega)
      have e2 : IntKind.i64.wrap (s.next + s.most) = s.next + s.most := w64 (by omega) (by omega)
      have e3 : IntKind.i64.wrap ((j : Int) + 1) = ((j + 1 : Nat) : Int) := w64 (by omega) (by omega)
      have e4 : IntKind.i64.wrap (refused + 1) = refused + 1 := w64 (by omega) (by omega)
      have hdrop : items.drop j = items[j] :: items.drop (j + 1) := List.drop_eq_getElem_cons hlt
      rw [hdrop, offerL] at hoff
      have hok2 := offer1_ok (n := first + j) (v := items[j]) (s := (rows, refused)) hok
      have hre := offer1_ref (next := s.next) (most := s.most) (n := first + j) (v := items[j]) (s := (rows, refused)) hr0
      simp only [e1]
      refine ⟨⟨by omega, by omega⟩, _, _, hrd.1, _, hrd.2, _, h1.rd 0 rfl _, ?_⟩
      have close : ∀ H2, SatL H2 (holdC hb mb s.next s.most :: mapI mb (offer1 s.next s.most (first + j) items[j] (rows, refused)).1 :: F) →
          ∃ (j' : Nat) (rows' : RowL), ((j + 1 : Nat) : Int) = j' ∧ j' ≤ items.length ∧ RowsOk s.next s.next s.most rows' ∧ 0 ≤ (offer1 s.next s.most (first + j) items[j] (rows, refused)).2 ∧ (offer1 s.next s.most (first + j) items[j] (rows, refused)).2 ≤ j' ∧
          offerL s.next s.most (first + j') (items.drop j') (rows', (offer1 s.next s.most (first + j) items[j] (rows, refused)).2) = offerL s.next s.most first items (s.rows, 0) ∧ SatL H2 (holdC hb mb s.next s.most :: mapI mb rows' :: F) :=
        fun H2 h2 => ⟨j + 1, _, rfl, hlt, hok2, by simp only at hre; omega, by simp only at hre; omega, by rw [← hoff]; congr 1; omega, h2⟩
      cases hl : mlook (first + j) rows with
      | some u =>
        refine ⟨_, _, ((h1.mp_look mt49 ko2 1 rfl).1 u hl).1, _, h1.rd 0 rfl _, ?_⟩
        have eo : offer1 s.next s.most (first + j) items[j] (rows, refused) = (rows, refused) := by unfold offer1; rw [if_pos (by right; simp [hl])]
        rw [eo] at close
        intro Jn hJ
        refine ⟨fun _ => hJ _ _ ?_, fun hc3 => by simp at hc3⟩
        unfold Offer.r1; simp only [e3]; exact ⟨close _ h1, by simp only [Int.toNat_natCast]; omega⟩
      | none =>
        refine ⟨_, _, ((h1.mp_look mt49 ko2 1 rfl).2 hl).1, _, h1.rd 0 rfl _, ?_⟩
        intro Jn hJ
        refine ⟨fun hc3 => hJ _ _ ?_, fun hc3 => ?_⟩
        · simp only [Bool.or_false, decide_eq_true_eq] at hc3
          have eo : offer1 s.next s.most (first + j) items[j] (rows, refused) = (rows, refused) := by unfold offer1; rw [if_pos (.inl hc3)]
          rw [eo] at close
          unfold Offer.r1; simp only [e3]; exact ⟨close _ h1, by simp only [Int.toNat_natCast]; omega⟩
        · simp only [Bool.or_false, decide_eq_false_iff_not] at hc3
          refine ⟨_, h1.rd 0 rfl _, _, h1.rd 0 rfl _, ?_⟩
          rw [e2, e4]
          intro Jn1 hJ1
          refine ⟨fun hc4 => hJ1 _ _ (hJ _ _ ?_), fun hc4 => ⟨_, h1.rd 0 rfl _, ?_⟩⟩
          · simp only [decide_eq_true_eq] at hc4
            have eo : offer1 s.next s.most (first + j) items[j] (rows, refused) = (rows, refused + 1) := by unfold offer1; rw [if_neg (by simp [hl]; omega), if_pos hc4]
            rw [eo] at close
            unfold Offer.r1; simp only [e3]; exact ⟨close _ h1, by simp only [Int.toNat_natCast]; omega⟩
          · simp only [decide_eq_false_iff_not] at hc4
            have eo : offer1 s.next s.most (first + j) items[j] (rows, refused) = (ins (first + j) items[j] rows, refused) := by unfold offer1; rw [if_neg (by simp [hl]; omega), if_neg hc4]
            rw [eo] at close
            refine h1.mp_update mt49 ko2 1 rfl fun H2 h2 => hJ1 _ _ (hJ _ _ ?_)
            unfold Offer.r1; simp only [e3]; refine ⟨close _ ?_, by simp only [Int.toNat_natCast]; omega⟩
            have ep : mapI mb (mset (first + j) items[j] rows) = mapI mb (ins (first + j) items[j] rows) := mapA_perm (by rw [mset, mdel_of_none hl]; exact (ins_perm _ _ _).symm)
            rw [← ep]; exact h2
    · have hge : j = items.length := by
        have : ¬ ((j : Int) < (items.length : Int)) := by simpa using hc2
        omega
      subst hge
      simp only [List.drop_length, offerL] at hoff
      rw [← hoff] at k
      simp only at k
      have hps := pop_spec hok.rising fun p hp => (hok.inb p hp).1
      have hlen2 := hok.length
      refine ⟨fun ra rn rc rf H' => ∃ (got : List Int) (next : Int) (rows' : RowL), rn = got.length ∧ rf = refused ∧ Rising rows' ∧ (∀ p ∈ rows', next ≤ p.1) ∧ (pop s.next rows).1 = got ++ (pop next rows').1 ∧ (pop s.next rows).2 = (pop next rows').2 ∧
        0 ≤ next ∧ next + rows'.length ≤ s.next + rows.length ∧ got.length + rows'.length = rows.length ∧ SatL H' (slA 2 1 ra rn rc (got.map I64) :: holdC hb mb next s.most :: mapI mb rows' :: F),
        fun _ n _ _ _ => rows.length - n, ⟨[], s.next, rows, rfl, rfl, hok.rising, fun p hp => (hok.inb p hp).1, by simp, by simp, by omega, by omega, by simp, h1.sl_nil 2 1⟩, ?_⟩
      rintro ra rn rc rf H2 ⟨got, next, rows', rfl, rfl, hri, hge, hp1, hp2, hn1, hn2, hgl, h2⟩
      unfold Offer.l3
      refine ⟨_, h2.rd 1 rfl _, _, h2.rd 1 rfl _, ?_⟩
      have hml := mlook_next (next := next) hri hge
      have e5 : IntKind.i64.wrap (next + 1) = next + 1 := w64 (by omega) (by omega)
      cases rows' with
      | nil =>
        simp only at hml
        refine ⟨_, _, ((h2.mp_look mt49 ko2 2 rfl).2 hml).1, fun _ => ?_, fun hc3 => by simp at hc3⟩
        simp only [pop, List.append_nil] at hp1 hp2
        rw [hp1, hp2] at k
        exact k _ _ _ h2
      | cons p r =>
        obtain ⟨n, v⟩ := p
        simp only at hml
        by_cases en : n = next
        · subst en
          rw [if_pos rfl] at hml
          refine ⟨_, _, ((h2.mp_look mt49 ko2 2 rfl).1 v hml).1, fun hc3 => by simp at hc3, fun _ => ?_⟩
          refine ⟨_, h2.rd 1 rfl _, _, h2.rd 1 rfl _, ?_⟩
          refine h2.mp_delete mt49 ko2 2 rfl fun H3 h3 => ?_
          rw [mdel_head hri] at h3
          simp only [List.length_cons] at hn2 hgl
          refine SatL.append1 sl32 h3 0 rfl (by rfl) (by rfl) (by omega) (by omega) fun a' c' H4 h4 => ?_
          refine ⟨_, _, _, rfl, _, SatL.rd h4 1 rfl _, SatL.can h4 1 rfl _ _ (by simp), ?_, by show rows.length - (got.length + 1) < rows.length - got.length; omega⟩
          have h5 := SatL.set h4 1 rfl 0 [I64 (IntKind.i64.wrap (n + 1))]
          rw [e5] at h5 ⊢
          simp only [pop, if_true] at hp1 hp2
          refine ⟨got ++ [v], n + 1, r, by simp, rfl, (List.pairwise_cons.1 hri).2, fun p hp => ?_, by rw [hp1]; simp, hp2, by omega, by omega, by simp; omega, ?_⟩
          · have := (List.pairwise_cons.1 hri).1 p hp; simp only at this; omega
          · rw [List.map_append]; exact h5
        · rw [if_neg en] at hml
          refine ⟨_, _, ((h2.mp_look mt49 ko2 2 rfl).2 hml).1, fun _ => ?_, fun hc3 => by simp at hc3⟩
          simp only [pop, if_neg en, List.append_nil] at hp1 hp2
          rw [hp1, hp2] at k
          exact k _ _ _ h2
end
end Go.Proofs.Ytfgabhogcbmhoaa
