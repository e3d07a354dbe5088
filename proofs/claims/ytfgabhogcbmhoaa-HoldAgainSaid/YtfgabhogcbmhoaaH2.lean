/-
  More of the buffer's functions, and the helpers.
-/
import Derived.Test.YtfgabhogcbmhoaaH1
set_option linter.unusedVariables false
set_option linter.unusedSimpArgs false
namespace Go.Nm
open Go
theorem take_succ_eq {α : Type} {xs ys : List α} {k : Nat} (h1 : k < xs.length) (h2 : k < ys.length) (h : xs.take k = ys.take k) (he : xs[k] = ys[k]) : xs.take (k + 1) = ys.take (k + 1) := by
  rw [List.take_succ_eq_append_getElem h1, List.take_succ_eq_append_getElem h2, h, he]
end Go.Nm
namespace Go.Proofs.Ytfgabhogcbmhoaa
open Go Go.Nm Go.Proofs

theorem SameLongs_spec {H : Heap} {a b : Option Addr} {c d : Nat} {xs ys : List Int} (ha : rdS H a (xs.map I64)) (hb : rdS H b (ys.map I64)) (hl : xs.length ≤ 1099511627776) :
    CallQ Try.prog 14 #[.slice a xs.length c, .slice b ys.length d] H (.bool (decide (xs = ys))) := by
  unfold CallQ
  refine SameLongs.call ?_
  unfold SameLongs.code
  refine ⟨fun hc => ?_, fun hc => ?_⟩
  · have : xs.length ≠ ys.length := by simp at hc; omega
    refine ⟨?_, rfl⟩
    rw [decide_eq_false (fun e => this (by rw [e]))]
  · have hlen : xs.length = ys.length := by simp at hc; omega
    refine ⟨fun i H' => H' = H ∧ ∃ k : Nat, i = k ∧ k ≤ xs.length ∧ xs.take k = ys.take k, fun i _ => xs.length - i.toNat, ⟨rfl, 0, rfl, Nat.zero_le _, rfl⟩, ?_⟩
    rintro i H' ⟨rfl, k, rfl, hk, ht⟩
    unfold SameLongs.l1
    refine ⟨fun hc2 => ?_, fun hc2 => ?_⟩
    · have hlt : k < xs.length := by simpa using hc2
      have h1 := ha.at hlt
      have h2 := hb.at (j := k) (by omega)
      have e3 : IntKind.i64.wrap ((k : Int) + 1) = ((k + 1 : Nat) : Int) := w64 (by omega) (by omega)
      refine ⟨⟨by omega, by omega⟩, _, _, h1.1, _, h1.2, ⟨by omega, by omega⟩, _, _, h2.1, _, h2.2, fun hc3 => ?_, fun hc3 => ?_⟩
      · have : xs[k] ≠ ys[k] := by simpa using hc3
        refine ⟨?_, rfl⟩
        rw [decide_eq_false (fun e => this (by simp [e]))]
      · have : xs[k] = ys[k] := by simpa using hc3
        rw [e3]
        exact ⟨⟨rfl, k + 1, rfl, hlt, take_succ_eq hlt (by omega) ht this⟩, by simp only [Int.toNat_natCast]; omega⟩
    · have : k = xs.length := by
        have : ¬ ((k : Int) < xs.length) := by simpa using hc2
        omega
      subst this
      rw [List.take_of_length_le (Nat.le_refl _), List.take_of_length_le (by omega)] at ht
      exact ⟨by rw [decide_eq_true ht], rfl⟩

theorem CopyLongs_spec {H : Heap} {L : List Assn} {a : Option Addr} {c : Nat} {xs : List Int} {K : Value → Heap → Prop} (h : SatL H L) (ha : rdS H a (xs.map I64)) (hl : xs.length ≤ 1000000)
    (k : ∀ a' c' H', SatL H' (slA 2 1 a' xs.length c' (xs.map I64) :: L) → K (.slice a' xs.length c') H') :
    CallF Try.prog 11 #[.slice a xs.length c] H K := by
  refine CopyLongs.call ?_
  unfold CopyLongs.code
  have h1 : SatL (H.push (.cells #[] 2)) (slA 2 1 (some ⟨H.size, 0, none⟩) 0 0 [] :: L) := SatL.sl_pt (cs := []) (h.push (.cells #[] 2)) 1 0 rfl
  refine SatL.append sl32 h1 0 rfl (ha.grow (Grow.push _ _)) (by simp) (plain_ints _ _) (by omega) (by omega) fun a' c' H' h2 => ⟨_, _, _, rfl, ?_⟩
  rw [Nat.zero_add]
  have h3 : SatL H' (slA 2 1 a' (0 + xs.length) c' ([] ++ xs.map I64) :: L) := h2
  rw [Nat.zero_add] at h3
  exact k _ _ _ h3

section
variable {hb mb : Nat} {next most : Int} {rows : RowL} {F : List Assn} {H : Heap} {K : Value → Heap → Prop}

theorem Next_spec (h : SatL H F) (i : Nat) (hA : nth i F = holdC hb mb next most) : CallQ Try.prog 17 #[.pointer (some ⟨hb, 0, none⟩)] H (I64 next) := by
  unfold CallQ
  refine Next.call ?_
  unfold Next.code
  exact ⟨_, h.rd i hA _, rfl, rfl⟩

theorem Waiting_spec (h : SatL H (holdC hb mb next most :: mapI mb rows :: F)) (hr : Rising rows) (hw : ∀ p ∈ rows, wf64 p.1) (hl : rows.length ≤ 1000000)
    (k : ∀ a c H', SatL H' (slA 2 1 a rows.length c ((keysOf rows).map I64) :: holdC hb mb next most :: mapI mb rows :: F) → Grow H H' → K (.slice a rows.length c) H') :
    CallF Try.prog 18 #[.pointer (some ⟨hb, 0, none⟩)] H K := by
  refine Waiting.call ?_
  unfold Waiting.code
  refine ⟨_, h.rd 0 rfl _, ?_⟩
  refine Keys_call ⟨_, rfl, ?_⟩
  refine Sorted_call h 1 rfl (fun x hx => by obtain ⟨p, hp, rfl⟩ := List.mem_map.1 hx; exact hw p hp) (by omega) fun a c H' h2 g => ⟨_, _, _, rfl, ?_⟩
  rw [sortI_keys hr] at h2
  exact k a c H' h2 g

theorem Drain_spec (h : SatL H (holdC hb mb next most :: mapI mb rows :: F)) (hr : Rising rows) (hw : ∀ p ∈ rows, wf64 p.1) (hl : rows.length ≤ 1000000)
    (k : ∀ a c H', SatL H' (slA 2 1 a rows.length c (rows.map fun p => I64 p.2) :: holdC hb mb next most :: mapI mb [] :: F) → K (.slice a rows.length c) H') :
    CallF Try.prog 15 #[.pointer (some ⟨hb, 0, none⟩)] H K := by
  refine Drain.call ?_
  unfold Drain.code
  refine Waiting_spec h hr hw hl fun ra rc H1 h1 _ => ⟨_, _, _, rfl, ?_⟩
  refine ⟨fun la ln lc i H' => ∃ k : Nat, i = k ∧ k = ln ∧ k ≤ rows.length ∧ SatL H' (slA 2 1 la k lc ((rows.take k).map fun p => I64 p.2) :: slA 2 1 ra rows.length rc ((keysOf rows).map I64) :: holdC hb mb next most :: mapI mb rows :: F),
    fun _ _ _ i _ => rows.length - i.toNat, ⟨0, rfl, rfl, Nat.zero_le _, h1.sl_nil 2 1⟩, ?_⟩
  rintro la ln lc i H2 ⟨j, rfl, rfl, hj, h2⟩
  unfold Drain.l1
  refine ⟨fun hc => ?_, fun hc => ?_⟩
  · have hlt : j < rows.length := by simpa using hc
    have hltk : j < (keysOf rows).length := by simpa [keysOf] using hlt
    have hrd := (h2.sl_rd 1 rfl).at (j := j) hltk
    have e3 : IntKind.i64.wrap ((j : Int) + 1) = ((j + 1 : Nat) : Int) := w64 (by omega) (by omega)
    have hml : mlook (keysOf rows)[j] rows = some rows[j].2 := mlook_of_mem (rising_nodup hr) (by
      have : ((keysOf rows)[j], rows[j].2) = rows[j] := by simp [keysOf]
      rw [this]; exact List.getElem_mem _)
    refine ⟨⟨by omega, by omega⟩, _, _, hrd.1, _, hrd.2, _, h2.rd 2 rfl _, _, ((h2.mp_look mt49 ko2 3 rfl).1 _ hml).2, ?_⟩
    refine h2.append1 sl32 0 rfl (by rfl) (by rfl) (by omega) (by omega) fun a' c' H3 h3 => ⟨_, _, _, rfl, ?_⟩
    rw [e3]
    refine ⟨⟨j + 1, rfl, rfl, hlt, ?_⟩, by simp only [Int.toNat_natCast]; omega⟩
    rw [List.take_succ_eq_append_getElem hlt, List.map_append]
    exact h3
  · have : j = rows.length := by
      have : ¬ ((j : Int) < rows.length) := by simpa using hc
      omega
    subst this
    refine ⟨_, h2.rd 2 rfl _, ?_⟩
    refine h2.mp_clear mt49 3 rfl fun H3 h3 => ?_
    rw [List.take_of_length_le (Nat.le_refl _)] at h3
    exact k _ _ _ (h3.ordt [0, 2, 3] 4 (by decide) (by decide))

theorem Clone_spec (h : SatL H (holdC hb mb next most :: mapI mb rows :: F))
    (k : ∀ hb' mb' H', SatL H' (holdC hb' mb' next most :: mapI mb' rows :: holdC hb mb next most :: mapI mb rows :: F) → K (.pointer (some ⟨hb', 0, none⟩)) H') :
    CallF Try.prog 20 #[.pointer (some ⟨hb, 0, none⟩)] H K := by
  refine Clone.call ?_
  unfold Clone.code
  refine ⟨_, h.rd 0 rfl _, _, h.rd 0 rfl _, _, h.rd 0 rfl _, ?_⟩
  refine Clone_call h 1 rfl fun H1 h1 _ => ⟨_, rfl, ?_⟩
  exact ⟨h1.rd 1 rfl _, h1.rd 1 rfl _, k _ _ _ (h1.push _)⟩
end
end Go.Proofs.Ytfgabhogcbmhoaa
