/-
  The document's wire, at one without packets.
-/
import Derived.Test.YtfkapbggncejcaaW7
set_option linter.unusedVariables false
set_option linter.unusedSimpArgs false
namespace Go.Proofs.Ytfkapbggncejcaa
open Go Go.Nm Go.Proofs

theorem sl51 : SlT Try.prog 51 75 5 56 := slT_of (by kernel_rfl)

/-- A fresh copy of bytes. -/
theorem kept_bytes {H : Heap} {L : List Assn} {Q : Assn} {b c : Nat} {a : Option Addr} {bs : List Int} {K : Value → Heap → Prop} (h : SatL H (cellsA b [] 5 :: Q :: L)) (ha : rdS H a (bs.map U8)) (hl : bs.length ≤ 1000000)
    (k : ∀ Q' a' c' H', Sub Q Q' → KIn Q' a' (bs.map U8) → SatL H' (Q' :: L) → K (.slice a' bs.length c') H') :
    RunW Try.prog (Builtin.append_ #[35, 35] 35 #[.slice (some ⟨b, 0, none⟩) 0 0, .slice a bs.length c]) H K := by
  have := kept_append (c := c) (ty := 35) (K := K) sl35 h ha (plain_map (fun _ => rfl) _) (by simpa using by omega) (by simpa using by omega) (fun Q' a' c' H' hs hk h' => by have := k Q' a' c' H' hs hk h'; simpa using this)
  simpa using this

section
variable {rb : Nat} {most : Int} {Q : Assn} {F : List Assn} {H : Heap} {K : Value → Heap → Prop} {n : Int}
abbrev refW (rb : Nat) (most : Int) : Assn := cellsA rb [I64 most, .slice none 0 0] 53

theorem RHas_spec (h : SatL H F) (i : Nat) (hA : nth i F = refW rb most) : CallQ Try.prog 33 #[.pointer (some ⟨rb, 0, none⟩), I64 n] H (.bool false) := by
  unfold CallQ
  refine R26_Wire_Has.call ?_
  unfold R26_Wire_Has.code
  have hno : ¬ ((decide (0 ≤ n) && decide (n < ((0 : Nat) : Int))) = true) := by
    intro hf
    simp only [Bool.and_eq_true, decide_eq_true_eq] at hf
    omega
  have hz : (decide (0 ≤ n) && decide (n < ((0 : Nat) : Int))) = false := Bool.eq_false_iff.2 hno
  refine ⟨fun _ => trivial, none, 0, 0, fun _ => h.rd i hA _, fun _ => trivial, none, 0, 0, fun hf => absurd hf hno, fun hf => absurd hf hno, 0, 0, fun hf => absurd hf hno, false, fun hf => absurd hf hno, ?_, rfl⟩
  rw [hz]; rfl

theorem RTake_spec (h : SatL H (refW rb most :: F)) (k : ∀ H', SatL H' (refW rb most :: F) → K (.tuple #[aggP Pk.z, I64 19]) H') : CallF Try.prog 26 #[.pointer (some ⟨rb, 0, none⟩), I64 n] H K := by
  refine R26_Wire_Take.call ?_
  unfold R26_Wire_Take.code
  refine h.al fun b _ h => ⟨_, RHas_spec h 1 rfl, fun _ => ?_, fun hf => (by cases hf)⟩
  repeat (first
    | refine h.al fun _ _ h => ?_
    | refine nn_some ?_
    | refine ⟨fun _ => trivial, ?_⟩
    | refine ⟨_, h.rd 0 rfl _, ?_⟩
    | refine h.st 0 rfl rfl fun _ h => ?_
    | refine ⟨_, _, _, _, _, _, h.rds 0 rfl rfl, ?_⟩
    | refine ⟨_, fun _ => h.rd 0 rfl _, ?_⟩
    | refine ⟨_, _, _, _, _, _, fun _ => h.rds 0 rfl rfl, ?_⟩)
  exact k _ h.tl

theorem RDouble_spec (h : SatL H (refW rb most :: F)) (k : ∀ H', SatL H' (refW rb most :: F) → K (.tuple #[I64 (-1), I64 19]) H') : CallF Try.prog 27 #[.pointer (some ⟨rb, 0, none⟩), I64 n] H K := by
  refine R26_Wire_Double.call ?_
  unfold R26_Wire_Double.code
  exact ⟨_, RHas_spec h 0 rfl, fun _ => k _ h, fun hf => (by cases hf)⟩

theorem RFlying_spec (h : SatL H (refW rb most :: F)) (k : ∀ b H', SatL H' (refW rb most :: F) → K (.slice (some ⟨b, 0, none⟩) 0 0) H') : CallF Try.prog 32 #[.pointer (some ⟨rb, 0, none⟩)] H K := by
  refine R26_Wire_Flying.call ?_
  unfold R26_Wire_Flying.code
  refine h.al fun b _ h => ?_
  refine ⟨fun a n c i H' => a = some ⟨b, 0, none⟩ ∧ n = 0 ∧ c = 0 ∧ i = 0 ∧ SatL H' (refW rb most :: F), fun _ _ _ _ _ => 0, ⟨rfl, rfl, rfl, rfl, h.tl⟩, ?_⟩
  rintro a n c i H1 ⟨rfl, rfl, rfl, rfl, h⟩
  unfold R26_Wire_Flying.l2
  exact ⟨_, _, _, h.rd 0 rfl _, fun hf => by simp at hf, fun _ => k b _ h⟩

theorem RPut_spec {la : Option Addr} {lc : Nat} {list : List Pk} (hlen : list.length ≤ 1000000)
    (hl : ∀ Q' H, Sub Q Q' → SatL H (Q' :: F) → rdS H la (flat encP list) ∧ ∀ p ∈ list, rdS H p.a (p.bytes.map U8)) (hb : ∀ p ∈ list, p.bytes.length ≤ 1000000)
    (h : SatL H (refW rb most :: Q :: F)) (k : ∀ r1 r2 Q' H', Sub Q Q' → SatL H' (Q' :: F) → K (.tuple #[I64 r1, I64 r2]) H') : CallF Try.prog 25 #[.pointer (some ⟨rb, 0, none⟩), .slice la list.length lc] H K := by
  refine R26_Wire_Put.call ?_
  unfold R26_Wire_Put.code
  refine ⟨fun i H' => ∃ j : Nat, i = j ∧ j ≤ list.length ∧ SatL H' (refW rb most :: Q :: F), fun i _ => list.length - i.toNat, ⟨0, rfl, Nat.zero_le _, h⟩, ?_⟩
  rintro i H1 ⟨j, rfl, hj, h⟩
  unfold R26_Wire_Put.l2
  refine ⟨fun hc => ?_, fun hc => ?_⟩
  · have hlt : j < list.length := by have := of_decide_eq_true hc; omega
    have hr := (hl Q H1 (Sub.refl Q) h.tl).1
    refine ⟨⟨by omega, by omega⟩, _, _, hr.some encP_len (by omega) hlt, _, _, _, _, _, _, hr.els encP_len hlt, ?_⟩
    repeat (first
      | refine h.al fun _ _ h => ?_
      | refine nn_some ?_
      | refine ⟨fun _ => trivial, ?_⟩
      | refine ⟨_, h.rd 0 rfl _, ?_⟩
      | refine h.st 0 rfl rfl fun _ h => ?_
      | refine ⟨_, fun _ => h.rd 0 rfl _, ?_⟩)
    rw [w64 (x := (j : Int) + 1) (by omega) (by omega)]
    exact ⟨fun _ => k _ _ Q _ (Sub.refl Q) h.tl.tl, fun _ => ⟨⟨j + 1, rfl, hlt, h.tl⟩, by simp only [Int.toNat_natCast]; omega⟩⟩
  · refine ⟨_, h.rd 0 rfl _, RFlying_spec h fun b H3 h => ⟨_, _, _, rfl, h.rd 0 rfl _, fun _ => k _ _ Q _ (Sub.refl Q) h.tl, fun _ => ⟨_, _, _, h.rd 0 rfl _, ?_⟩⟩⟩
    have h := (h.sl_nil 75 5).ordt [1, 0] 2 (by decide) (by decide)
    refine ⟨fun i H' => ∃ (j : Nat) (a : Option Addr) (c : Nat) (cs : List Value) (Q' : Assn), i = j ∧ j ≤ list.length ∧ Sub Q Q' ∧ SatL H' (cellsA rb [I64 most, .slice a j c] 53 :: slA 75 5 a j c cs :: Q' :: F), fun i _ => list.length - i.toNat,
      ⟨0, none, 0, [], Q, rfl, Nat.zero_le _, Sub.refl Q, h⟩, ?_⟩
    rintro i H4 ⟨j, a, c, cs, Q', rfl, hj, hs, h⟩
    unfold R26_Wire_Put.l1
    refine ⟨fun hc2 => ?_, fun hc2 => k _ _ Q' _ hs h.tl.tl⟩
    have hlt : j < list.length := by have := of_decide_eq_true hc2; omega
    have hr := (hl Q' H4 hs h.tl.tl).1
    have hp := List.getElem_mem hlt
    refine ⟨⟨by omega, by omega⟩, _, _, hr.some encP_len (by omega) hlt, _, _, _, _, _, _, hr.els encP_len hlt, ?_⟩
    refine h.al fun b3 _ h => h.st 0 rfl rfl fun _ h => ?_
    refine h.al fun b4 _ h => ?_
    refine ⟨_, _, _, h.rd 1 rfl _, ?_⟩
    have hrb := (hl Q' _ hs (h.ordt [4] 5 (by decide) (by decide))).2 _ hp
    refine kept_bytes (h.ordt [0, 4, 1, 2, 3] 5 (by decide) (by decide)) hrb (hb _ hp) fun Q2 a' c' H8 hs2 hk h => ⟨_, _, _, rfl, ?_⟩
    refine h.st 1 rfl rfl fun _ h => ⟨_, _, _, h.rd 2 rfl _, _, _, _, _, _, _, h.rds 1 rfl rfl, ?_⟩
    refine h.al fun b5 _ h => ⟨h.rd 3 rfl _, ?_⟩
    refine SatL.append (m := 1) (ws := [.bool list[j].up, I64 list[j].agent, I64 list[j].sent, .slice a' list[j].bytes.length c', .bool true]) sl51 h 4 rfl (h.ce_rd 0 rfl) rfl rfl (by omega) (by omega) fun a2 c2 H11 h => ⟨_, _, _, rfl, ?_⟩
    refine h.st 3 rfl rfl fun H12 h => ?_
    rw [w64 (x := (j : Int) + 1) (by omega) (by omega)]
    exact ⟨⟨j + 1, a2, c2, _, Q2, rfl, hlt, hs.trans hs2, h.ordt [3, 4, 1] 5 (by decide) (by decide)⟩, by simp only [Int.toNat_natCast]; omega⟩
end
end Go.Proofs.Ytfkapbggncejcaa
