/-
  The wire's functions, walked.
-/
import Derived.Test.YtfkapbggncejcaaKS
import Derived.Test.YtfkapbggncejcaaWP
import Derived.Test.YtfkapbggncejcaaMR
set_option linter.unusedVariables false
set_option linter.unusedSimpArgs false
namespace Go.Proofs.Ytfkapbggncejcaa
open Go Go.Nm Go.Proofs

abbrev I64 := Value.int .i64
theorem sl35 : SlT Try.prog 35 5 1 1 := slT_of (by kernel_rfl)
theorem mt29 : MapT Try.prog 29 2 37 aggP Pk.z := mapT_of Try.underlying29 (by kernel_rfl)
theorem ko2 : KeyOK Try.prog 2 I64 := keyOK_int Try.underlying2
theorem encP_len (p : Pk) : (encP p).length = 4 := rfl

abbrev wireC (wb mb : Nat) (most next : Int) : Assn := cellsA wb [I64 most, I64 next, .map (some mb)] 61
abbrev mapW (mb : Nat) (m : PM) : Assn := mapA I64 aggP mb m

section
variable {wb mb : Nat} {most next : Int} {m : PM} {Q : Assn} {F : List Assn} {H : Heap} {K : Value → Heap → Prop}

theorem SameBytes_spec {H : Heap} {a b : Option Addr} {c d : Nat} {xs ys : List Int} (ha : rdS H a (xs.map U8)) (hb : rdS H b (ys.map U8)) (hl : xs.length ≤ 1099511627776) :
    CallQ Try.prog 21 #[.slice a xs.length c, .slice b ys.length d] H (.bool (decide (xs = ys))) := by
  unfold CallQ
  refine SameBytes.call ?_
  unfold SameBytes.code
  refine ⟨fun hc => ?_, fun hc => ?_⟩
  · have : xs.length ≠ ys.length := by simp at hc; omega
    refine ⟨?_, rfl⟩
    rw [decide_eq_false (fun e => this (by rw [e]))]
  · have hlen : xs.length = ys.length := by simp at hc; omega
    refine ⟨fun i H' => H' = H ∧ ∃ k : Nat, i = k ∧ k ≤ xs.length ∧ xs.take k = ys.take k, fun i _ => xs.length - i.toNat, ⟨rfl, 0, rfl, Nat.zero_le _, rfl⟩, ?_⟩
    rintro i H' ⟨rfl, k, rfl, hk, ht⟩
    unfold SameBytes.l1
    refine ⟨fun hc2 => ?_, fun hc2 => ?_⟩
    · have hlt : k < xs.length := by simpa using hc2
      have h1 := ha.at hlt
      have h2 := hb.at (j := k) (by omega)
      have e3 : IntKind.i64.wrap ((k : Int) + 1) = ((k + 1 : Nat) : Int) := w64 (by omega) (by omega)
      refine ⟨⟨by omega, by omega⟩, _, _, h1.1, _, h1.2, ⟨by omega, by omega⟩, _, _, h2.1, _, h2.2, fun hc3 => ?_, fun hc3 => ?_⟩
      · have : xs[k] ≠ ys[k] := by simpa using hc3
        refine ⟨?_, rfl⟩
        rw [decide_eq_false (fun e => this (by simp [e]))]
      · have : xs[k] = ys[k] := by simpa using hc3
        rw [e3]
        refine ⟨⟨rfl, k + 1, rfl, hlt, ?_⟩, by simp only [Int.toNat_natCast]; omega⟩
        rw [List.take_succ_eq_append_getElem hlt, List.take_succ_eq_append_getElem (by omega), ht, this]
    · have : k = xs.length := by
        have : ¬ ((k : Int) < xs.length) := by simpa using hc2
        omega
      subst this
      rw [List.take_of_length_le (Nat.le_refl _), List.take_of_length_le (by omega)] at ht
      exact ⟨by rw [decide_eq_true ht], rfl⟩

theorem bClone_spec {a : Option Addr} {c : Nat} {bs : List Int} (h : SatL H (Q :: F)) (ha : ∀ H, SatL H (Q :: F) → rdS H a (bs.map U8)) (hl : bs.length ≤ 1000000)
    (k : ∀ Q' a' c' H', Sub Q Q' → KIn Q' a' (bs.map U8) → SatL H' (Q' :: F) → K (.slice a' bs.length c') H') : CallF Try.prog 29 #[.slice a bs.length c] H K := by
  refine bytes_Clone.call ⟨fun hc => ?_, fun hc => ?_⟩
  · have : a = none := by simpa using hc
    subst this
    have hz := rdS_none (ha H h)
    have : bs = [] := by simpa using hz
    subst this
    exact k Q none 0 H (Sub.refl Q) (KIn.nil Q none) h
  · refine h.al fun b _ h => ?_
    have := kept_append (c := c) (ty := 35) (K := fun u H_1 => ∃ sa sn sc, u = (.slice sa sn sc) ∧ K (.slice sa sn sc) H_1) sl35 h (ha _ h.tl) (plain_map (fun _ => rfl) _) (by simpa using by omega) (by simpa using by omega)
      (fun Q' a' c' H' hs hk h' => ⟨_, _, _, rfl, by have := k Q' a' c' H' hs hk h'; simpa using this⟩)
    simpa using this

theorem CopyBytes_spec {a : Option Addr} {c : Nat} {bs : List Int} (h : SatL H (Q :: F)) (ha : ∀ H, SatL H (Q :: F) → rdS H a (bs.map U8)) (hl : bs.length ≤ 1000000)
    (k : ∀ Q' a' c' H', Sub Q Q' → KIn Q' a' (bs.map U8) → SatL H' (Q' :: F) → K (.slice a' bs.length c') H') : CallF Try.prog 22 #[.slice a bs.length c] H K := by
  refine CopyBytes.call ?_
  unfold CopyBytes.code
  refine h.al fun b _ h => ?_
  have := kept_append (c := c) (ty := 35) (K := fun u H_1 => ∃ sa sn sc, u = (.slice sa sn sc) ∧ K (.slice sa sn sc) H_1) sl35 h (ha _ h.tl) (plain_map (fun _ => rfl) _) (by simpa using by omega) (by simpa using by omega)
      (fun Q' a' c' H' hs hk h' => ⟨_, _, _, rfl, by have := k Q' a' c' H' hs hk h'; simpa using this⟩)
  simpa using this

theorem copied_spec {p : Pk} (h : SatL H (Q :: F)) (hp : ∀ H, SatL H (Q :: F) → rdS H p.a (p.bytes.map U8)) (hpl : p.bytes.length ≤ 1000000)
    (k : ∀ Q' p' H', Sub Q Q' → p'.In Q' → p'.core = p.core → SatL H' (Q' :: F) → K (aggP p') H') : CallF Try.prog 20 #[aggP p] H K := by
  refine wire_copied.call ?_
  unfold wire_copied.code
  refine h.al fun b _ h => ?_
  refine h.al fun b1 _ h => ?_
  refine ⟨_, _, _, h.rd 1 rfl _, ?_⟩
  refine bClone_spec (h.ordt [2, 0, 1] 3 (by decide) (by decide)) (fun H h => hp H (h.ordt [0] 3 (by decide) (by decide))) hpl fun Q' a' c' H' hs hk h => ⟨_, _, _, rfl, ?_⟩
  refine h.st 2 rfl rfl fun _ h => ?_
  refine ⟨_, _, _, _, _, _, h.rds 2 rfl rfl, ?_⟩
  refine h.st 1 rfl rfl fun _ h => ?_
  refine ⟨_, _, _, _, _, _, h.rds 1 rfl rfl, ?_⟩
  exact k Q' ⟨p.up, p.agent, p.sent, a', c', p.bytes⟩ _ hs ⟨hk, hpl⟩ rfl (h.ordt [0] 3 (by decide) (by decide))
end
end Go.Proofs.Ytfkapbggncejcaa
