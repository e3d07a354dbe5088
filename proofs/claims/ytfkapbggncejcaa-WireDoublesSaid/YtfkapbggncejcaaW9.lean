/-
  told, at a document's wire without packets.
-/
import Derived.Test.YtfkapbggncejcaaW8
set_option linter.unusedVariables false
set_option linter.unusedSimpArgs false
namespace Go.Proofs.Ytfkapbggncejcaa
open Go Go.Nm Go.Proofs

abbrev slP (p : Pk) : Assn := slA 5 1 p.a p.bytes.length p.c (p.bytes.map U8)
def ownB (own : List Pk) : Assn := star (own.map slP)

section
variable {rb wb mb : Nat} {most next : Int} {m : PM} {Q : Assn} {F L : List Assn} {H : Heap} {K : Value → Heap → Prop} {n : Int}

theorem ownB_cons {p : Pk} {r : List Pk} : SatL H (ownB (p :: r) :: L) ↔ SatL H (slP p :: ownB r :: L) := satL_sep
theorem ownB_rd : ∀ {own : List Pk} {L : List Assn}, SatL H (ownB own :: L) → ∀ p ∈ own, rdS H p.a (p.bytes.map U8)
  | [], _, _, p, hp => by cases hp
  | q :: r, L, h, p, hp => by
    have h2 := ownB_cons.1 h
    rcases List.mem_cons.1 hp with rfl | hp
    · exact h2.sl_rd 0 rfl
    · exact ownB_rd h2.tl p hp
theorem ownB_snoc {own : List Pk} {p : Pk} : ∀ {L : List Assn}, SatL H (slP p :: ownB own :: L) → SatL H (ownB (own ++ [p]) :: L) := by
  induction own with
  | nil => intro L h; exact ownB_cons.2 h
  | cons q r ih =>
    intro L h
    have h2 : SatL H (ownB (q :: r) :: slP p :: L) := h.ordt [1, 0] 2 (by decide) (by decide)
    have h3 := (ownB_cons.1 h2).ordt [2, 1, 0] 3 (by decide) (by decide)
    exact ownB_cons.2 ((ih h3).ordt [1, 0] 2 (by decide) (by decide))
theorem ownB_set : ∀ {own : List Pk} {L : List Assn} {i k : Nat} {v : Int}, SatL H (ownB own :: L) → (hi : i < own.length) → (hk : k < own[i].bytes.length) →
    own[i].a = some ⟨adrB own[i].a, adrO own[i].a, none⟩ ∧ canSet H (adrB own[i].a) (adrO own[i].a + k) [U8 v] ∧ ∀ H', H' = setAll H (adrB own[i].a) (adrO own[i].a + k) [U8 v] → SatL H' (ownB (own.set i { own[i] with bytes := own[i].bytes.set k v }) :: L)
  | [], _, i, k, v, h, hi, _ => by simp at hi
  | q :: r, L, 0, k, v, h, hi, hk => by
    have h2 := ownB_cons.1 h
    simp only [List.getElem_cons_zero] at hk ⊢
    have := h2.sl_set 0 rfl k [U8 v] (by simp; omega) (by simp)
    refine ⟨this.1, this.2.1, ?_⟩
    rintro H' rfl
    have h3 := this.2.2
    simp only [List.set_cons_zero]
    refine ownB_cons.2 ?_
    unfold slP
    simp only [List.length_set]
    have e : setsL (q.bytes.map U8) k [U8 v] = (q.bytes.set k v).map U8 := by
      simp [setsL, List.map_set]
    rw [← e]
    exact h3
  | q :: r, L, i + 1, k, v, h, hi, hk => by
    have h2 := (ownB_cons.1 h).ordt [1, 0] 2 (by decide) (by decide)
    simp only [List.getElem_cons_succ] at hk ⊢
    obtain ⟨h2a, h3, h4⟩ := ownB_set (own := r) (i := i) (v := v) h2 (by simpa using hi) hk
    refine ⟨h2a, h3, fun H' e => ?_⟩
    simp only [List.set_cons_succ]
    exact ownB_cons.2 ((h4 H' e).ordt [1, 0] 2 (by decide) (by decide))

theorem CopyBytes_own {a : Option Addr} {c : Nat} {bs : List Int} (h : SatL H L) (ha : ∀ H, SatL H L → rdS H a (bs.map U8)) (hl : bs.length ≤ 1000000)
    (k : ∀ a' c' H', SatL H' (slA 5 1 a' bs.length c' (bs.map U8) :: L) → K (.slice a' bs.length c') H') : CallF Try.prog 22 #[.slice a bs.length c] H K := by
  refine CopyBytes.call ?_
  unfold CopyBytes.code
  refine h.al fun b _ h => ?_
  have h1 : SatL _ (slA 5 1 (some ⟨b, 0, none⟩) 0 0 [] :: L) := SatL.sl_pt (cs := []) h 1 0 rfl
  refine SatL.append (m := bs.length) sl35 h1 0 rfl (ha _ h.tl) (by simp) (plain_map (fun _ => rfl) _) (by omega) (by omega) fun a' c' H' h2 => ⟨_, _, _, rfl, ?_⟩
  have h3 : SatL H' (slA 5 1 a' (0 + bs.length) c' ([] ++ bs.map U8) :: L) := h2
  rw [Nat.zero_add] at h3 ⊢
  exact k _ _ _ h3
end
end Go.Proofs.Ytfkapbggncejcaa
