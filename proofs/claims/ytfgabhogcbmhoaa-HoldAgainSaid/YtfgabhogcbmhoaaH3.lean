/-
  The reference's functions.
-/
import Derived.Test.YtfgabhogcbmhoaaH2
import Derived.Test.YtfgabhogcbmhoaaSF
set_option linter.unusedVariables false
set_option linter.unusedSimpArgs false
namespace Go.Nm
open Go
def enc2 (p : Int × Int) : List Value := [.int .i64 p.1, .int .i64 p.2]
theorem enc2_len (p : Int × Int) : (enc2 p).length = 2 := rfl
theorem enc2_plain (p : Int × Int) : plainCells (enc2 p) = true := rfl
theorem ins_mid {n v : Int} : ∀ {A B : RowL}, (∀ p ∈ A, ¬ n < p.1) → (∀ p ∈ B.head?, n < p.1) → ins n v (A ++ B) = A ++ (n, v) :: B
  | [], [], _, _ => rfl
  | [], (a, b) :: r, _, h => by simp [ins, h (a, b) rfl]
  | (a, b) :: A, B, h1, h2 => by
    have := h1 (a, b) (by simp)
    simp only [List.cons_append, ins, if_neg this]
    rw [ins_mid (fun p hp => h1 p (by simp [hp])) h2]
end Go.Nm
namespace Go.Proofs.Ytfgabhogcbmhoaa
open Go Go.Nm Go.Proofs

theorem sl42 : SlT Try.prog 42 56 2 16 := slT_of (by kernel_rfl)
abbrev refC (hb : Nat) (next most : Int) (ra : Option Addr) (rn rc : Nat) : Assn := cellsA hb [I64 next, I64 most, .slice ra rn rc] 44
abbrev rowsA (ra : Option Addr) (rn rc : Nat) (rows : RowL) : Assn := slA 56 2 ra rn rc (flat enc2 rows)

section
variable {hb : Nat} {ra : Option Addr} {rn rc : Nat} {next most : Int} {rows : RowL} {F : List Assn} {H : Heap} {K : Value → Heap → Prop}

theorem rows_len (h : SatL H F) (i : Nat) (hA : nth i F = rowsA ra rn rc rows) : rn = rows.length := by
  have := h.sl_len i hA
  rw [flat_length enc2_len] at this
  omega

theorem RNew_spec (h : SatL H F)
    (k1 : next < 0 ∨ 1099511627776 < next ∨ most < 1 ∨ 256 < most → K (.tuple #[.pointer none, I64 11]) H)
    (k2 : ∀ hb H', ¬ (next < 0 ∨ 1099511627776 < next ∨ most < 1 ∨ 256 < most) → SatL H' (refC hb next most none 0 0 :: rowsA none 0 0 [] :: F) → K (.tuple #[.pointer (some ⟨hb, 0, none⟩), I64 0]) H') :
    CallF Try.prog 10 #[I64 next, I64 most] H K := by
  refine RNew.call ?_
  unfold RNew.code
  refine ⟨fun hc => k1 ?_, fun hc => ?_⟩
  · simp only [Bool.or_eq_true, decide_eq_true_eq] at hc; omega
  · simp only [Bool.or_eq_false_iff, decide_eq_false_iff_not] at hc
    exact k2 _ _ (by omega) ((h.sl_nil 56 2).push _)

theorem Rhas_spec {n : Int} (h : SatL H F) (i j : Nat) (hA : nth i F = refC hb next most ra rn rc) (hB : nth j F = rowsA ra rn rc rows) (hl : rows.length ≤ 1000000) :
    CallQ Try.prog 21 #[.pointer (some ⟨hb, 0, none⟩), I64 n] H (.bool (mlook n rows).isSome) := by
  have hrn := rows_len h j hB
  subst hrn
  have hrd := h.sl_rd j hB
  unfold CallQ
  refine Rhas.call ?_
  unfold Rhas.code
  refine ⟨fun i H' => H' = H ∧ ∃ k : Nat, i = k ∧ k ≤ rows.length ∧ mlook n rows = mlook n (rows.drop k), fun i _ => rows.length - i.toNat, ⟨rfl, 0, rfl, Nat.zero_le _, rfl⟩, ?_⟩
  rintro i1 H' ⟨rfl, k, rfl, hk, hm⟩
  unfold Rhas.l1
  refine ⟨_, _, _, h.rd i hA _, fun hc => ?_, fun hc => ?_⟩
  · have hlt : k < rows.length := by simpa using hc
    have e3 : IntKind.i64.wrap ((k : Int) + 1) = ((k + 1 : Nat) : Int) := w64 (by omega) (by omega)
    have hd : rows.drop k = rows[k] :: rows.drop (k + 1) := List.drop_eq_getElem_cons hlt
    rw [hd, mlook] at hm
    refine ⟨_, _, _, h.rd i hA _, ⟨by omega, by omega⟩, _, _, hrd.some enc2_len (by omega) hlt, _, hrd.el0 enc2_len hlt rfl, fun hc2 => ?_, fun hc2 => ?_⟩
    · simp only [decide_eq_true_eq] at hc2
      rw [if_pos hc2.symm] at hm
      exact ⟨by rw [hm]; rfl, rfl⟩
    · simp only [decide_eq_false_iff_not] at hc2
      rw [if_neg (fun e => hc2 e.symm)] at hm
      rw [e3]
      exact ⟨⟨rfl, k + 1, rfl, hlt, hm⟩, by simp only [Int.toNat_natCast]; omega⟩
  · have : k = rows.length := by
      have : ¬ ((k : Int) < rows.length) := by simpa using hc
      omega
    subst this
    simp only [List.drop_length, mlook] at hm
    exact ⟨by rw [hm]; rfl, rfl⟩

theorem Rput_loop {n v : Int} (hl : rows.length ≤ 1000000)
    (hk : ∀ ra rc H', SatL H' (refC hb next most ra (rows.length + 1) rc :: rowsA ra (rows.length + 1) rc (ins n v rows) :: F) → K (.tuple #[]) H')
    (h : SatL H (refC hb next most ra (rows.length + 1) rc :: rowsA ra (rows.length + 1) rc (rows ++ [(n, v)]) :: F)) (hr : Rising rows) (hn : mlook n rows = none) :
    Rput.r2 hb 0 K rows.length H := by
  unfold Rput.r2
  refine ⟨fun i H' => ∃ k : Nat, i = k ∧ k ≤ rows.length ∧ (∀ p ∈ rows.drop k, n < p.1) ∧ SatL H' (refC hb next most ra (rows.length + 1) rc :: rowsA ra (rows.length + 1) rc (rows.take k ++ (n, v) :: rows.drop k) :: F), fun i _ => i.toNat, ⟨rows.length, rfl, Nat.le_refl _, by simp, by simpa using h⟩, ?_⟩
  rintro i H1 ⟨k, rfl, hk1, hgt, h1⟩
  unfold Rput.l1
  have hrd := h1.sl_rd 1 rfl
  have hlen : (rows.take k ++ (n, v) :: rows.drop k).length = rows.length + 1 := by simp; omega
  by_cases hk0 : 0 < k
  · have e1 : IntKind.i64.wrap ((k : Int) - 1) = ((k - 1 : Nat) : Int) := by rw [w64 (by omega) (by omega)]; omega
    have hkm : k - 1 < rows.length := by omega
    have g1 : (rows.take k ++ (n, v) :: rows.drop k)[k - 1]'(by omega) = rows[k - 1] := by
      rw [List.getElem_append_left (by simp; omega)]; simp
    have g2 : (rows.take k ++ (n, v) :: rows.drop k)[k]'(by omega) = (n, v) := by
      rw [List.getElem_append_right (by rw [List.length_take]; omega)]; simp [Nat.min_eq_left hk1]
    have el1 := hrd.els enc2_len (k := k - 1) (by omega)
    have el2 := hrd.els enc2_len (k := k) (by omega)
    rw [g1] at el1
    rw [g2] at el2
    have hsome := hrd.some enc2_len (by omega) (k := k) (by omega)
    simp only [e1]
    refine ⟨fun _ => trivial, _, _, _, fun _ => h1.rd 0 rfl _, fun _ => ⟨by omega, by omega⟩, _, _, fun _ => hsome, _, fun _ => el1.1, fun _ => trivial, _, _, _, fun _ => h1.rd 0 rfl _, fun _ => ⟨by omega, by omega⟩, _, _, fun _ => hsome, _, fun _ => el2.1, fun hc => ?_, fun hc => ?_⟩
    · have hgt2 : n < rows[k - 1].1 := by simp at hc; exact hc.2
      refine ⟨_, _, _, h1.rd 0 rfl _, _, _, _, h1.rd 0 rfl _, _, _, _, h1.rd 0 rfl _, ⟨by omega, by omega⟩, _, _, hsome, _, _, el2, _, _, _, h1.rd 0 rfl _, ⟨by omega, by omega⟩, _, _, hsome, _, _, el1, ⟨by omega, by omega⟩, _, _, hsome, ?_⟩
      obtain ⟨_, c1, h2⟩ := h1.sl_set 1 rfl ((k - 1) * 2) (enc2 (n, v)) (by rw [flat_length enc2_len, hlen, enc2_len]; omega) (by simp [enc2])
      rw [flat_set enc2_len (n, v) (by omega)] at h2
      obtain ⟨_, c2, h3⟩ := SatL.sl_set h2 1 rfl (k * 2) (enc2 rows[k - 1]) (by rw [flat_length enc2_len, List.length_set, hlen, enc2_len]; omega) (by simp [enc2])
      rw [flat_set enc2_len rows[k - 1] (by rw [List.length_set]; omega)] at h3
      refine ⟨c1, ⟨by omega, by omega⟩, _, _, hsome, c2, ⟨k - 1, rfl, by omega, ?_, ?_⟩, by simp only [Int.toNat_natCast]; omega⟩
      · intro p hp
        rw [List.drop_eq_getElem_cons hkm, show k - 1 + 1 = k by omega] at hp
        rcases List.mem_cons.1 hp with rfl | hp
        · exact hgt2
        · exact hgt p hp
      · have e4 : ((rows.take k ++ (n, v) :: rows.drop k).set (k - 1) (n, v)).set k rows[k - 1] = rows.take (k - 1) ++ (n, v) :: rows.drop (k - 1) := by
          rw [List.drop_eq_getElem_cons hkm, show k - 1 + 1 = k by omega]
          have e5 : rows.take k = rows.take (k - 1) ++ [rows[k - 1]] := by
            have := List.take_succ_eq_append_getElem hkm
            rwa [show k - 1 + 1 = k by omega] at this
          rw [e5, List.append_assoc, List.set_append_right _ _ (by simp; omega)]
          have l1 : (rows.take (k - 1)).length = k - 1 := by simp; omega
          rw [l1, Nat.sub_self, List.singleton_append, List.set_cons_zero, List.set_append_right _ _ (by omega), l1, show k - (k - 1) = 1 by omega]
          rfl
        have h4 : SatL _ (_ :: rowsA ra (rows.length + 1) rc (((rows.take k ++ (n, v) :: rows.drop k).set (k - 1) (n, v)).set k rows[k - 1]) :: F) := h3
        rw [e4] at h4
        exact h4
    · have hng : ¬ n < rows[k - 1].1 := by simp [hk0] at hc; omega
      refine hk ra rc H1 ?_
      have e6 : ins n v rows = rows.take k ++ (n, v) :: rows.drop k := by
        have : ins n v (rows.take k ++ rows.drop k) = rows.take k ++ (n, v) :: rows.drop k := by
          refine ins_mid (fun p hp hlt => ?_) (fun p hp => hgt p (List.mem_of_mem_head? hp))
          obtain ⟨j, hj, rfl⟩ := List.getElem_of_mem hp
          simp only [List.length_take] at hj
          simp only [List.getElem_take] at hlt
          by_cases ej : j = k - 1
          · subst ej; exact hng hlt
          · have := List.pairwise_iff_getElem.1 hr j (k - 1) (by omega) (by omega) (by omega)
            omega
        rwa [List.take_append_drop] at this
      rw [e6]; exact h1
  · obtain rfl : k = 0 := by omega
    refine ⟨fun hc => by simp at hc, none, 0, 0, fun hc => by simp at hc, fun hc => by simp at hc, 0, 0, fun hc => by simp at hc, 0, fun hc => by simp at hc, fun hc => by simp at hc, none, 0, 0, fun hc => by simp at hc, fun hc => by simp at hc, 0, 0, fun hc => by simp at hc, 0, fun hc => by simp at hc, fun hc => by simp at hc, fun _ => ?_⟩
    refine hk ra rc H1 ?_
    have e6 : ins n v rows = (n, v) :: rows := ins_mid (A := []) (by simp) (fun p hp => hgt p (List.mem_of_mem_head? (by simpa using hp)))
    rw [e6]; exact h1

theorem Rput_spec {n v : Int} (h : SatL H (refC hb next most ra rn rc :: rowsA ra rn rc rows :: F)) (hr : Rising rows) (hn : mlook n rows = none) (hl : rows.length ≤ 1000000)
    (hk : ∀ ra rc H', SatL H' (refC hb next most ra (rows.length + 1) rc :: rowsA ra (rows.length + 1) rc (ins n v rows) :: F) → K (.tuple #[]) H') :
    CallF Try.prog 22 #[.pointer (some ⟨hb, 0, none⟩), .agg #[I64 n, I64 v]] H K := by
  have hrn := rows_len h 1 rfl
  subst hrn
  refine Rput.call ?_
  unfold Rput.code
  have h1 : SatL _ (cellsA H.size (enc2 (n, v)) 56 :: _) := h.push (.cells #[I64 n, I64 v] 56)
  refine ⟨_, _, _, h1.rd 1 rfl _, ?_⟩
  intro Jn hJ
  refine ⟨_, _, _, h1.rd 1 rfl _, n, v, ⟨h1.rd 0 rfl _, h1.rd 0 rfl _⟩, ?_⟩
  have fin : ∀ a c H', SatL H' (slA 56 2 a (rows.length + 1) c (flat enc2 (rows ++ [(n, v)])) :: refC hb next most ra rows.length rc :: rowsA ra rows.length rc rows :: F) →
      canSet H' hb (0 + 2) [.slice a (rows.length + 1) c] ∧ Jn (setAll H' hb (0 + 2) [.slice a (rows.length + 1) c]) := by
    intro a c H' h'
    refine ⟨h'.can 1 rfl _ _ (by simp), hJ _ ?_⟩
    have h2 := h'.set 1 rfl (0 + 2) [.slice a (rows.length + 1) c]
    exact Rput_loop hl hk (SatL.ordt h2 [1, 0] 3 (by decide) (by decide)) hr hn
  refine ⟨⟨cellsAre_grow (Grow.push _ _) ⟨h1.rd 0 rfl _, h1.rd 0 rfl _⟩, cellAt_push (h1.rd 1 rfl _), ?_, ?_, ?_⟩, ?_, ?_, ?_⟩
  · have h2 : SatL _ (slA 56 2 (some ⟨_, 0, none⟩) 0 0 [] :: _) := SatL.sl_pt (cs := []) (h1.push (.cells #[] 56)) 2 0 rfl
    refine SatL.append sl42 h2 0 rfl (h2.sl_rd 3 rfl) (flat_length enc2_len _) (flat_plain enc2_plain _) (by omega) (by omega) fun a1 c1 H1 h3 => ⟨_, _, _, rfl, ⟨SatL.rd h3 1 rfl _, SatL.rd h3 1 rfl _⟩, ?_⟩
    refine SatL.append1 sl42 h3 0 rfl (ws := enc2 (n, v)) (by rfl) (by rfl) (by omega) (by omega) fun a2 c2 H2 h4 => ⟨_, _, _, rfl, ?_⟩
    rw [Nat.zero_add rows.length]
    refine fin _ _ _ ?_
    rw [Nat.zero_add rows.length] at h4
    rw [flat_append, flat_one]
    exact SatL.ordt h4 [0, 2, 3] 4 (by decide) (by decide)
  · exact cellAt_push (cellAt_push (h1.rd 1 rfl _))
  · have h2 : SatL _ (slA 56 2 (some ⟨_, 0, none⟩) 0 0 [] :: _) := SatL.sl_pt (cs := []) (h1.push (.cells #[] 56)) 2 0 rfl
    have h2b : SatL _ (cellsA _ (enc2 (n, v)) 56 :: _) := h2.push (.cells #[I64 n, I64 v] 56)
    refine SatL.append sl42 h2b 1 rfl (h2b.sl_rd 4 rfl) (flat_length enc2_len _) (flat_plain enc2_plain _) (by omega) (by omega) fun a1 c1 H1 h3 => ⟨_, _, _, rfl, ?_⟩
    refine SatL.append sl42 h3 1 rfl (m := 1) (ws := enc2 (n, v)) (fun j u hj => ⟨rfl, ?_⟩) (by rfl) (by rfl) (by omega) (by omega) fun a2 c2 H2 h4 => ⟨_, _, _, rfl, ?_⟩
    · have := SatL.rd h3 0 rfl j
      simp only [adrB, adrO, Nat.zero_add]
      exact this.trans hj
    rw [Nat.zero_add rows.length]
    refine fin _ _ _ ?_
    rw [Nat.zero_add rows.length] at h4
    rw [flat_append, flat_one]
    exact SatL.ordt h4 [1, 3, 4] 5 (by decide) (by decide)
  · exact cellAt_push (h1.rd 1 rfl _)
  · exact cellAt_push (cellAt_push (h1.rd 1 rfl _))
  · have h2a : SatL _ (cellsA _ (enc2 (n, v)) 56 :: _) := h1.push (.cells #[I64 n, I64 v] 56)
    have h2 : SatL _ (slA 56 2 (some ⟨_, 0, none⟩) 0 0 [] :: _) := SatL.sl_pt (cs := []) (h2a.push (.cells #[] 56)) 2 0 rfl
    refine SatL.append sl42 h2 0 rfl (h2.sl_rd 4 rfl) (flat_length enc2_len _) (flat_plain enc2_plain _) (by omega) (by omega) fun a1 c1 H1 h3 => ⟨_, _, _, rfl, ?_⟩
    refine SatL.append sl42 h3 0 rfl (m := 1) (ws := enc2 (n, v)) (fun j u hj => ⟨rfl, ?_⟩) (by rfl) (by rfl) (by omega) (by omega) fun a2 c2 H2 h4 => ⟨_, _, _, rfl, ?_⟩
    · have := SatL.rd h3 1 rfl j
      simp only [adrB, adrO, Nat.zero_add]
      exact this.trans hj
    rw [Nat.zero_add rows.length]
    refine fin _ _ _ ?_
    rw [Nat.zero_add rows.length] at h4
    rw [flat_append, flat_one]
    exact SatL.ordt h4 [0, 3, 4] 5 (by decide) (by decide)
end
end Go.Proofs.Ytfgabhogcbmhoaa
