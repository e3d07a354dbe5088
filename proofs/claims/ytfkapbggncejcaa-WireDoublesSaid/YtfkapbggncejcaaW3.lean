/-
  The wire's functions, walked (3).
-/
import Derived.Test.YtfkapbggncejcaaW2
set_option linter.unusedVariables false
set_option linter.unusedSimpArgs false
namespace Go.Proofs.Ytfkapbggncejcaa
open Go Go.Nm Go.Proofs

theorem sl46 : SlT Try.prog 46 2 1 8 := slT_of (by kernel_rfl)
theorem sl43 : SlT Try.prog 43 42 4 48 := slT_of (by kernel_rfl)
theorem sl30 : SlT Try.prog 30 37 4 48 := slT_of (by kernel_rfl)

section
variable {wb mb : Nat} {most next : Int} {m : PM} {Q : Assn} {F : List Assn} {H : Heap} {K : Value → Heap → Prop}

theorem SameLongs_spec {H : Heap} {a b : Option Addr} {c d : Nat} {xs ys : List Int} (ha : rdS H a (xs.map I64)) (hb : rdS H b (ys.map I64)) (hl : xs.length ≤ 1099511627776) :
    CallQ Try.prog 19 #[.slice a xs.length c, .slice b ys.length d] H (.bool (decide (xs = ys))) := by
  unfold CallQ
  refine SameLongs.call ?_
  unfold SameLongs.code
  refine ⟨fun hc => ?_, fun hc => ?_⟩
  · have : xs.length ≠ ys.length := by simp at hc; omega
    refine ⟨?_, rfl⟩
    rw [decide_eq_false (fun e => this (by rw [e]))]
  · have hlen : xs.length = ys.length := by simp at hc; omega
    refine ⟨fun i H' => H' = H ∧ ∃ k : Nat, i = k ∧ k ≤ xs.length ∧ xs.take k = ys.take k, fun i _ => xs.length - i.toNat, ⟨rfl, 0, rfl, Nat.zero_le _, rfl⟩, ?_⟩
    rintro i H' ⟨rfl, k, rfl, hk, ht⟩
    unfold SameLongs.l1
    refine ⟨fun hc2 => ?_, fun hc2 => ?_⟩
    · have hlt : k < xs.length := by simpa using hc2
      have h1 := ha.at hlt
      have h2 := hb.at (j := k) (by omega)
      have e3 : IntKind.i64.wrap ((k : Int) + 1) = ((k + 1 : Nat) : Int) := w64 (by omega) (by omega)
      refine ⟨⟨by omega, by omega⟩, _, _, h1.1, _, h1.2, ⟨by omega, by omega⟩, _, _, h2.1, _, h2.2, fun hc3 => ?_, fun hc3 => ?_⟩
      · have : xs[k] ≠ ys[k] := by simpa using hc3
        refine ⟨?_, rfl⟩
        rw [decide_eq_false (fun e => this (by simp [e]))]
      · have : xs[k] = ys[k] := by simpa using hc3
        rw [e3]
        refine ⟨⟨rfl, k + 1, rfl, hlt, ?_⟩, by simp only [Int.toNat_natCast]; omega⟩
        rw [List.take_succ_eq_append_getElem hlt, List.take_succ_eq_append_getElem (by omega), ht, this]
    · have : k = xs.length := by
        have : ¬ ((k : Int) < xs.length) := by simpa using hc2
        omega
      subst this
      rw [List.take_of_length_le (Nat.le_refl _), List.take_of_length_le (by omega)] at ht
      exact ⟨by rw [decide_eq_true ht], rfl⟩

theorem Next_spec (h : SatL H F) (i : Nat) (hA : nth i F = wireC wb mb most next) : CallQ Try.prog 17 #[.pointer (some ⟨wb, 0, none⟩)] H (I64 next) := by
  unfold CallQ
  refine wire_Next.call ?_
  unfold wire_Next.code
  exact ⟨_, h.rd i hA _, rfl, rfl⟩

theorem WOk.wf (ok : WOk Q most next m) (hn : next ≤ 1125899906842624) : ∀ x ∈ keysOf m, wf64 x := by
  intro x hx
  obtain ⟨p, hp, rfl⟩ := List.mem_map.1 hx
  have := ok.keys p hp
  unfold wf64; omega
theorem WOk.small (ok : WOk Q most next m) : m.length ≤ 4096 := by have := ok.len; have := ok.m2; omega

theorem Flying_spec (ok : WOk Q most next m) (hn : next ≤ 1125899906842624) (h : SatL H (wireC wb mb most next :: mapW mb m :: F))
    (k : ∀ a c H', SatL H' (slA 2 1 a m.length c ((sortI (keysOf m)).map I64) :: wireC wb mb most next :: mapW mb m :: F) → K (.slice a m.length c) H') :
    CallF Try.prog 13 #[.pointer (some ⟨wb, 0, none⟩)] H K := by
  refine wire_Flying.call ?_
  unfold wire_Flying.code
  refine ⟨_, h.rd 0 rfl _, ?_⟩
  refine Keys_call ⟨_, _, rfl, ?_⟩
  have := WOk.small ok
  exact Sorted_call h 1 rfl (WOk.wf ok hn) (by omega) fun a c H' h' _ => ⟨_, _, _, rfl, k a c H' h'⟩

theorem Take_spec (ok : WOk Q most next m) {n : Int} (h : SatL H (wireC wb mb most next :: mapW mb m :: F))
    (k1 : mlook n m = none → ∀ H', SatL H' (wireC wb mb most next :: mapW mb m :: F) → K (.tuple #[aggP Pk.z, I64 19]) H')
    (k2 : ∀ p, mlook n m = some p → WOk Q most next (mdel n m) → ∀ H', SatL H' (wireC wb mb most next :: mapW mb (mdel n m) :: F) → K (.tuple #[aggP p, I64 0]) H') :
    CallF Try.prog 9 #[.pointer (some ⟨wb, 0, none⟩), I64 n] H K := by
  refine wire_Take.call ?_
  unfold wire_Take.code
  repeat (first
    | refine h.al fun _ _ h => ?_
    | refine nn_some ?_
    | refine ⟨fun _ => trivial, ?_⟩
    | refine ⟨_, h.rd 0 rfl _, ?_⟩
    | refine ⟨_, h.rd 1 rfl _, ?_⟩
    | refine h.st 0 rfl rfl fun _ h => ?_
    | refine h.st 1 rfl rfl fun _ h => ?_
    | refine ⟨_, fun _ => h.rd 0 rfl _, ?_⟩
    | refine ⟨_, fun _ => h.rd 1 rfl _, ?_⟩)
  have hl := h.mp_get mt29 ko2 2 rfl (x := n)
  cases hm : mlook n m with
  | none =>
    rw [hm] at hl
    refine ⟨_, _, _, _, _, _, _, hl, ?_⟩
    repeat (first
      | refine h.al fun _ _ h => ?_
      | refine nn_some ?_
      | refine ⟨fun _ => trivial, ?_⟩
      | refine ⟨_, h.rd 0 rfl _, ?_⟩
      | refine ⟨_, h.rd 1 rfl _, ?_⟩
      | refine h.st 0 rfl rfl fun _ h => ?_
      | refine h.st 1 rfl rfl fun _ h => ?_
      | refine ⟨_, fun _ => h.rd 0 rfl _, ?_⟩
      | refine ⟨_, fun _ => h.rd 1 rfl _, ?_⟩)
    refine ⟨fun _ => ?_, fun hc => (by cases hc)⟩
    repeat (first
      | refine h.al fun _ _ h => ?_
      | refine nn_some ?_
      | refine ⟨fun _ => trivial, ?_⟩
      | refine ⟨_, h.rd 0 rfl _, ?_⟩
      | refine ⟨_, h.rd 1 rfl _, ?_⟩
      | refine h.st 0 rfl rfl fun _ h => ?_
      | refine h.st 1 rfl rfl fun _ h => ?_
      | refine ⟨_, _, _, _, _, _, h.rds 0 rfl rfl, ?_⟩
      | refine ⟨_, _, _, _, _, _, h.rds 1 rfl rfl, ?_⟩
      | refine ⟨_, fun _ => h.rd 0 rfl _, ?_⟩
      | refine ⟨_, fun _ => h.rd 1 rfl _, ?_⟩
      | refine ⟨_, _, _, _, _, _, fun _ => h.rds 0 rfl rfl, ?_⟩
      | refine ⟨_, _, _, _, _, _, fun _ => h.rds 1 rfl rfl, ?_⟩)
    exact k1 hm _ h.tl.tl
  | some p =>
    rw [hm] at hl
    refine ⟨_, _, _, _, _, _, _, hl, ?_⟩
    repeat (first
      | refine h.al fun _ _ h => ?_
      | refine nn_some ?_
      | refine ⟨fun _ => trivial, ?_⟩
      | refine ⟨_, h.rd 0 rfl _, ?_⟩
      | refine ⟨_, h.rd 1 rfl _, ?_⟩
      | refine h.st 0 rfl rfl fun _ h => ?_
      | refine h.st 1 rfl rfl fun _ h => ?_
      | refine ⟨_, fun _ => h.rd 0 rfl _, ?_⟩
      | refine ⟨_, fun _ => h.rd 1 rfl _, ?_⟩)
    refine ⟨fun hc => (by cases hc), fun _ => ?_⟩
    repeat (first
      | refine h.al fun _ _ h => ?_
      | refine nn_some ?_
      | refine ⟨fun _ => trivial, ?_⟩
      | refine ⟨_, h.rd 0 rfl _, ?_⟩
      | refine ⟨_, h.rd 1 rfl _, ?_⟩
      | refine ⟨_, h.rd 2 rfl _, ?_⟩
      | refine h.st 0 rfl rfl fun _ h => ?_
      | refine h.st 1 rfl rfl fun _ h => ?_
      | refine h.st 2 rfl rfl fun _ h => ?_
      | refine ⟨_, fun _ => h.rd 0 rfl _, ?_⟩
      | refine ⟨_, fun _ => h.rd 1 rfl _, ?_⟩
      | refine ⟨_, fun _ => h.rd 2 rfl _, ?_⟩)
    refine h.mp_delete mt29 ko2 3 rfl (x := n) fun _ h => ?_
    refine ⟨_, _, _, _, _, _, h.rds 0 rfl rfl, ?_⟩
    refine h.st 1 rfl rfl fun _ h => ?_
    refine ⟨_, _, _, _, _, _, h.rds 1 rfl rfl, ?_⟩
    refine k2 p hm ⟨ok.m1, ok.m2, ?_, fun q hq => ok.keys q (mem_mdel.1 hq).1, ok.next0, fun q hq => ok.ins q (mem_mdel.1 hq).1, fun q hq => ok.ag q (mem_mdel.1 hq).1, nodup_mdel ok.nd⟩ _ h.tl.tl
    have := length_mdel ok.nd hm
    have := ok.len
    omega

theorem Of_spec {n : Int} (ok : WOk Q most next m) (h : SatL H (wireC wb mb most next :: mapW mb m :: Q :: F))
    (k : ∀ Q' p H', Sub Q Q' → p.In Q' → p.core = ((mlook n m).getD Pk.z).core → SatL H' (wireC wb mb most next :: mapW mb m :: Q' :: F) → K (.tuple #[aggP p, .bool (mlook n m).isSome]) H') :
    CallF Try.prog 16 #[.pointer (some ⟨wb, 0, none⟩), I64 n] H K := by
  refine wire_Of.call ?_
  unfold wire_Of.code
  repeat (first
    | refine h.al fun _ _ h => ?_
    | refine nn_some ?_
    | refine ⟨fun _ => trivial, ?_⟩
    | refine ⟨_, h.rd 0 rfl _, ?_⟩
    | refine ⟨_, h.rd 1 rfl _, ?_⟩
    | refine h.st 0 rfl rfl fun _ h => ?_
    | refine h.st 1 rfl rfl fun _ h => ?_
    | refine ⟨_, fun _ => h.rd 0 rfl _, ?_⟩
    | refine ⟨_, fun _ => h.rd 1 rfl _, ?_⟩)
  refine ⟨_, _, _, _, _, _, _, h.mp_get mt29 ko2 2 rfl (x := n), ?_⟩
  repeat (first
    | refine h.al fun _ _ h => ?_
    | refine nn_some ?_
    | refine ⟨fun _ => trivial, ?_⟩
    | refine ⟨_, h.rd 0 rfl _, ?_⟩
    | refine ⟨_, h.rd 1 rfl _, ?_⟩
    | refine h.st 0 rfl rfl fun _ h => ?_
    | refine h.st 1 rfl rfl fun _ h => ?_
    | refine ⟨_, fun _ => h.rd 0 rfl _, ?_⟩
    | refine ⟨_, fun _ => h.rd 1 rfl _, ?_⟩)
  refine ⟨_, _, _, _, _, _, h.rds 0 rfl rfl, ?_⟩
  have hin : ((mlook n m).getD Pk.z).In Q := by
    cases hm : mlook n m with
    | none => exact Pk.z_in Q
    | some p => exact ok.ins _ (mlook_some_mem hm)
  refine copied_spec (p := (mlook n m).getD Pk.z) (h.ordt [4, 0, 1, 2, 3] 5 (by decide) (by decide)) (fun H h => hin.1 H _ h) hin.2 fun Q' p' H' hs hi hc h => ⟨_, _, _, _, _, _, rfl, ?_⟩
  refine h.st 2 rfl rfl fun _ h => ?_
  refine ⟨_, _, _, _, _, _, h.rds 2 rfl rfl, ?_⟩
  exact k Q' p' _ hs hi hc (h.ordt [3, 4, 0] 5 (by decide) (by decide))

theorem Double_spec {n : Int} (ok : WOk Q most next m) (hn : next ≤ 1125899906842624) (h : SatL H (wireC wb mb most next :: mapW mb m :: Q :: F))
    (k1 : mlook n m = none → ∀ H', SatL H' (wireC wb mb most next :: mapW mb m :: Q :: F) → K (.tuple #[I64 (-1), I64 19]) H')
    (k2 : ∀ p, mlook n m = some p → badP p → ∀ H', SatL H' (wireC wb mb most next :: mapW mb m :: Q :: F) → K (.tuple #[I64 (-1), I64 10]) H')
    (k2' : ∀ p, mlook n m = some p → most < (m.length : Int) + 1 → ∀ H', SatL H' (wireC wb mb most next :: mapW mb m :: Q :: F) → K (.tuple #[I64 (-1), I64 20]) H')
    (k3 : ∀ p, mlook n m = some p → ¬ badP p → (m.length : Int) + 1 ≤ most → ∀ Q' m' H', Sub Q Q' → WOk Q' most (next + 1) m' → cores m' = mset next p.core (cores m) → SatL H' (wireC wb mb most (next + 1) :: mapW mb m' :: Q' :: F) → K (.tuple #[I64 next, I64 0]) H') :
    CallF Try.prog 12 #[.pointer (some ⟨wb, 0, none⟩), I64 n] H K := by
  refine wire_Double.call ?_
  unfold wire_Double.code
  repeat (first
    | refine h.al fun _ _ h => ?_
    | refine nn_some ?_
    | refine ⟨fun _ => trivial, ?_⟩
    | refine ⟨_, h.rd 0 rfl _, ?_⟩
    | refine h.st 0 rfl rfl fun _ h => ?_
    | refine ⟨_, fun _ => h.rd 0 rfl _, ?_⟩)
  have hl := h.mp_get mt29 ko2 1 rfl (x := n)
  cases hm : mlook n m with
  | none =>
    rw [hm] at hl
    refine ⟨_, _, _, _, _, _, _, hl, ?_⟩
    repeat (first
      | refine h.al fun _ _ h => ?_
      | refine nn_some ?_
      | refine ⟨fun _ => trivial, ?_⟩
      | refine ⟨_, h.rd 0 rfl _, ?_⟩
      | refine h.st 0 rfl rfl fun _ h => ?_
      | refine ⟨_, fun _ => h.rd 0 rfl _, ?_⟩)
    exact ⟨fun _ => k1 hm _ h.tl, fun hc => by cases hc⟩
  | some p =>
    rw [hm] at hl
    have hin := ok.ins _ (mlook_some_mem hm)
    refine ⟨_, _, _, _, _, _, _, hl, ?_⟩
    repeat (first
      | refine h.al fun _ _ h => ?_
      | refine nn_some ?_
      | refine ⟨fun _ => trivial, ?_⟩
      | refine ⟨_, h.rd 0 rfl _, ?_⟩
      | refine h.st 0 rfl rfl fun _ h => ?_
      | refine ⟨_, fun _ => h.rd 0 rfl _, ?_⟩)
    refine ⟨fun hc => (by cases hc), fun _ => ?_⟩
    refine ⟨_, _, _, _, _, _, h.rds 0 rfl rfl, ?_⟩
    refine h.al fun b1 _ h => ?_
    refine Put_spec (list := [p]) (lc := 1) ok hn (by simp) (F := cellsA b1 (encP p) 37 :: F) (fun Q' H hs h' => ⟨?_, ?_⟩) (fun q hq => ?_) (h.ordt [2, 3, 4, 0] 5 (by decide) (by decide)) (fun hb H' h => ⟨_, _, rfl, k2 p hm (by obtain ⟨q, hq, hb⟩ := hb; rw [List.mem_singleton] at hq; subst hq; exact hb) H' (h.ordt [0, 1, 2] 4 (by decide) (by decide))⟩)
      (fun hf H' h => ⟨_, _, rfl, k2' p hm (by simpa using hf) H' (h.ordt [0, 1, 2] 4 (by decide) (by decide))⟩) fun hb hf Q' m' H' hs ok' hput h => ⟨_, _, rfl, k3 p hm (hb p (by simp)) (by simpa using hf) Q' m' H' hs ok' hput (h.ordt [0, 1, 2] 4 (by decide) (by decide))⟩
    · exact h'.ce_rd 1 rfl
    · intro q hq
      rw [List.mem_singleton] at hq; subst hq
      exact (hin.1.sub hs) _ _ h'
    · rw [List.mem_singleton] at hq; subst hq
      exact hin.2

theorem same_spec {p q : Pk} (h : SatL H F) (hp : ∀ H, SatL H F → rdS H p.a (p.bytes.map U8)) (hq : ∀ H, SatL H F → rdS H q.a (q.bytes.map U8)) (hl : p.bytes.length ≤ 1000000) (k : ∀ r H', (p.core = q.core → r = true) → SatL H' F → K (.bool r) H') : CallF Try.prog 10 #[aggP p, aggP q] H K := by
  refine same.call ?_
  unfold same.code
  refine h.al fun b _ h => ?_
  refine h.al fun b3 _ h => ?_
  refine ⟨_, h.rd 1 rfl _, _, h.rd 0 rfl _, _, fun _ => h.rd 1 rfl _, _, fun _ => h.rd 0 rfl _, _, fun _ => h.rd 1 rfl _, _, fun _ => h.rd 0 rfl _, _, _, _, fun _ => h.rd 1 rfl _, _, _, _, fun _ => h.rd 0 rfl _, _, fun _ => SameBytes_spec (hp _ h.tl.tl) (hq _ h.tl.tl) (by omega), ?_⟩
  refine k _ _ (fun e => ?_) h.tl.tl
  simp only [Pk.core, Prod.mk.injEq] at e
  simp [e.1, e.2.1, e.2.2.1, e.2.2.2]
end
end Go.Proofs.Ytfkapbggncejcaa
