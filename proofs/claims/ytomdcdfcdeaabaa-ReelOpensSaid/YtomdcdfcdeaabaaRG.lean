/-
  Sealed bytes: both sides.
-/
import Derived.Test.YtomdcdfcdeaabaaRF
set_option linter.unusedVariables false
set_option linter.unusedSimpArgs false
namespace Go.Nm
open Go
def le4 (s : Int) : List Int := [s % 256, s / 256 % 256, s / 65536 % 256, s / 16777216 % 256]
def sealB (bs : List Int) : List Int := bs ++ le4 (crcS bs)
def openM (bs : List Int) : Int × List Int :=
  if bs.length < 4 then (15, []) else if sealB (bs.take (bs.length - 4)) = bs then (0, bs.take (bs.length - 4)) else (14, [])
theorem le4_bytes (s : Int) : isBytes (le4 s) := by
  intro x hx
  simp only [le4, List.mem_cons, List.not_mem_nil, or_false] at hx
  rcases hx with rfl | rfl | rfl | rfl <;> omega
theorem isBytes_append {a b : List Int} (ha : isBytes a) (hb : isBytes b) : isBytes (a ++ b) := fun x hx => (List.mem_append.1 hx).elim (ha x) (hb x)
theorem isBytes_take {a : List Int} (n : Nat) (ha : isBytes a) : isBytes (a.take n) := fun x hx => ha x (List.mem_of_mem_take hx)
theorem isBytes_drop {a : List Int} (n : Nat) (ha : isBytes a) : isBytes (a.drop n) := fun x hx => ha x (List.mem_of_mem_drop hx)
theorem sealB_bytes {bs : List Int} (h : isBytes bs) : isBytes (sealB bs) := isBytes_append h (le4_bytes _)
theorem sealB_len (bs : List Int) : (sealB bs).length = bs.length + 4 := by simp [sealB, le4]
theorem openM_seal (bs : List Int) : openM (sealB bs) = (0, bs) := by
  unfold openM
  rw [sealB_len, if_neg (by omega), Nat.add_sub_cancel]
  have : (sealB bs).take bs.length = bs := by unfold sealB; rw [List.take_left]
  rw [this, if_pos rfl]
theorem openM_ok {bs p : List Int} (h : openM bs = (0, p)) : bs = sealB p := by
  unfold openM at h
  split at h
  · cases h
  · split at h
    · rename_i h1
      cases h
      exact h1.symm
    · cases h
theorem le4_val {s : Int} (h0 : 0 ≤ s) (h1 : s < 4294967296) {a b c d : Int} (ha : 0 ≤ a ∧ a < 256) (hb : 0 ≤ b ∧ b < 256) (hc : 0 ≤ c ∧ c < 256) (hd : 0 ≤ d ∧ d < 256) :
    le4 s = [a, b, c, d] ↔ a + 256 * b + 65536 * c + 16777216 * d = s := by
  unfold le4
  constructor
  · intro h
    simp only [List.cons.injEq, and_true] at h
    omega
  · intro h
    simp only [List.cons.injEq, and_true]
    omega
theorem or32_add {a m p : Nat} (ha : a < 2 ^ p) (h : a + m * 2 ^ p < 4294967296) : bitsV .or .u32 (a : Int) ((m * 2 ^ p : Nat) : Int) = ((a + m * 2 ^ p : Nat) : Int) := by
  have h1 : a < 4294967296 := by omega
  have h2 : m * 2 ^ p < 4294967296 := by omega
  have e3 : a ||| m * 2 ^ p = a + m * 2 ^ p := by
    rw [Nat.mul_comm m, Nat.or_comm, ← Nat.two_pow_add_eq_or_of_lt ha, Nat.add_comm]
  show IntKind.u32.wrap ((BitVec.ofInt IntKind.u32.bits (a : Int) ||| BitVec.ofInt IntKind.u32.bits ((m * 2 ^ p : Nat) : Int)).toNat : Int) = _
  rw [BitVec.toNat_or, u32_of h1, u32_of h2, e3, u32w (by omega) (by omega)]
theorem sum_code {a b c d : Int} (ha : 0 ≤ a ∧ a < 256) (hb : 0 ≤ b ∧ b < 256) (hc : 0 ≤ c ∧ c < 256) (hd : 0 ≤ d ∧ d < 256) :
    bitsV .or .u32 (bitsV .or .u32 (bitsV .or .u32 (IntKind.u32.wrap a) (IntKind.u32.wrap ((IntKind.u32.wrap b) * 2 ^ (min (Int.toNat 8) (IntKind.u32.bits))))) (IntKind.u32.wrap ((IntKind.u32.wrap c) * 2 ^ (min (Int.toNat 16) (IntKind.u32.bits))))) (IntKind.u32.wrap ((IntKind.u32.wrap d) * 2 ^ (min (Int.toNat 24) (IntKind.u32.bits))))
      = a + 256 * b + 65536 * c + 16777216 * d := by
  rw [u32w (x := a) (by omega) (by omega), u32w (x := b) (by omega) (by omega), u32w (x := c) (by omega) (by omega), u32w (x := d) (by omega) (by omega)]
  show bitsV .or .u32 (bitsV .or .u32 (bitsV .or .u32 a (IntKind.u32.wrap (b * 256))) (IntKind.u32.wrap (c * 65536))) (IntKind.u32.wrap (d * 16777216)) = _
  rw [u32w (x := b * 256) (by omega) (by omega), u32w (x := c * 65536) (by omega) (by omega), u32w (x := d * 16777216) (by omega) (by omega)]
  obtain ⟨a', rfl⟩ := Int.eq_ofNat_of_zero_le ha.1
  obtain ⟨b', rfl⟩ := Int.eq_ofNat_of_zero_le hb.1
  obtain ⟨c', rfl⟩ := Int.eq_ofNat_of_zero_le hc.1
  obtain ⟨d', rfl⟩ := Int.eq_ofNat_of_zero_le hd.1
  have e1 := or32_add (a := a') (m := b') (p := 8) (by omega) (by omega)
  have e2 := or32_add (a := a' + b' * 2 ^ 8) (m := c') (p := 16) (by omega) (by omega)
  have e3 := or32_add (a := a' + b' * 2 ^ 8 + c' * 2 ^ 16) (m := d') (p := 24) (by omega) (by omega)
  rw [show (2 : Nat) ^ 8 = 256 by decide] at e1 e2 e3
  rw [show (2 : Nat) ^ 16 = 65536 by decide] at e2 e3
  rw [show (2 : Nat) ^ 24 = 16777216 by decide] at e3
  have f1 : ((b' * 256 : Nat) : Int) = (b' : Int) * 256 := Int.natCast_mul ..
  have f2 : ((c' * 65536 : Nat) : Int) = (c' : Int) * 65536 := Int.natCast_mul ..
  have f3 : ((d' * 16777216 : Nat) : Int) = (d' : Int) * 16777216 := Int.natCast_mul ..
  rw [f1] at e1
  rw [f2] at e2
  rw [f3] at e3
  rw [e1, e2, e3]
  omega
theorem last4 {bs : List Int} (h : ¬ bs.length < 4) : ∃ a b c d, bs = bs.take (bs.length - 4) ++ [a, b, c, d] ∧ bs.drop (bs.length - 4) = [a, b, c, d] := by
  have hl : (bs.drop (bs.length - 4)).length = 4 := by rw [List.length_drop]; omega
  obtain ⟨a, b, c, d, e⟩ : ∃ a b c d, bs.drop (bs.length - 4) = [a, b, c, d] := by
    match hx : bs.drop (bs.length - 4), hl with
    | [a, b, c, d], _ => exact ⟨a, b, c, d, rfl⟩
  exact ⟨a, b, c, d, by rw [← e, List.take_append_drop], e⟩
theorem u8_bytes {xs : List Int} (h : isBytes xs) (i : Nat) (hi : i < xs.length) : ((UInt8.ofNat (xs[i]).toNat).toNat : Int) = xs[i] := by
  have := h _ (List.getElem_mem hi)
  rw [UInt8.toNat_ofNat']
  omega
end Go.Nm
namespace Go.Proofs.Ytomdcdfcdeaabaa
open Go Go.Nm Go.Proofs
section
variable {F L : List Assn} {H : Heap} {K : Value → Heap → Prop}

theorem le4_code {s : Int} (h0 : 0 ≤ s) (h1 : s < 4294967296) :
    [U8 (IntKind.u8.wrap s), U8 (IntKind.u8.wrap (Int.fdiv s (2 ^ (min (Int.toNat 8) (IntKind.u32.bits))))), U8 (IntKind.u8.wrap (Int.fdiv s (2 ^ (min (Int.toNat 16) (IntKind.u32.bits))))), U8 (IntKind.u8.wrap (Int.fdiv s (2 ^ (min (Int.toNat 24) (IntKind.u32.bits)))))] = (le4 s).map U8 := by
  obtain ⟨n, rfl⟩ := Int.eq_ofNat_of_zero_le h0
  show [U8 (IntKind.u8.wrap (n : Int)), U8 (IntKind.u8.wrap (Int.fdiv (n : Int) 256)), U8 (IntKind.u8.wrap (Int.fdiv (n : Int) 65536)), U8 (IntKind.u8.wrap (Int.fdiv (n : Int) 16777216))] = _
  rw [Int.fdiv_eq_ediv_of_nonneg _ (by decide), Int.fdiv_eq_ediv_of_nonneg _ (by decide), Int.fdiv_eq_ediv_of_nonneg _ (by decide)]
  rw [show (n : Int) / 256 = ((n / 256 : Nat) : Int) by omega, show (n : Int) / 65536 = ((n / 65536 : Nat) : Int) by omega, show (n : Int) / 16777216 = ((n / 16777216 : Nat) : Int) by omega]
  rw [u8_of, u8_of, u8_of, u8_of]
  unfold le4
  simp only [List.map_cons, List.map_nil, List.cons.injEq, Value.int.injEq, true_and, and_true]
  omega
theorem le4_ref {s : Int} (h0 : 0 ≤ s) (h1 : s < 4294967296) :
    [U8 (IntKind.u8.wrap s), U8 (IntKind.u8.wrap (IntKind.u32.wrap (Int.tdiv s 256))), U8 (IntKind.u8.wrap (IntKind.u32.wrap (Int.tdiv s 65536))), U8 (IntKind.u8.wrap (IntKind.u32.wrap (Int.tdiv s 16777216)))] = (le4 s).map U8 := by
  obtain ⟨n, rfl⟩ := Int.eq_ofNat_of_zero_le h0
  rw [Int.tdiv_eq_ediv_of_nonneg (by omega), Int.tdiv_eq_ediv_of_nonneg (by omega), Int.tdiv_eq_ediv_of_nonneg (by omega)]
  rw [u32w (x := (n : Int) / 256) (by omega) (by omega), u32w (x := (n : Int) / 65536) (by omega) (by omega), u32w (x := (n : Int) / 16777216) (by omega) (by omega)]
  rw [show (n : Int) / 256 = ((n / 256 : Nat) : Int) by omega, show (n : Int) / 65536 = ((n / 65536 : Nat) : Int) by omega, show (n : Int) / 16777216 = ((n / 16777216 : Nat) : Int) by omega]
  rw [u8_of, u8_of, u8_of, u8_of]
  unfold le4
  simp only [List.map_cons, List.map_nil, List.cons.injEq, Value.int.injEq, true_and, and_true]
  omega

theorem R07Seal_spec {a : Option Addr} {c : Nat} {bs : List Int} (h : SatL H F) (hF : ∀ H, SatL H F → rdS H a (bs.map U8)) (hl : bs.length ≤ 1099511627776)
    (k : ∀ a' c' H', SatL H' (slA 5 1 a' (sealB bs).length c' ((sealB bs).map U8) :: F) → K (.slice a' (sealB bs).length c') H') :
    CallF Try.prog 69 #[.slice a bs.length c] H K := by
  refine R07_Seal.call ?_
  unfold R07_Seal.code
  have hq := R07Sum_spec (c := c) (hF H h) hl
  refine ⟨_, hq, ?_⟩
  obtain ⟨s0, s1⟩ := crcS_in bs
  refine h.al fun b H1 h => ?_
  have h1 := SatL.sl_pt (cs := []) h 1 0 rfl
  refine SatL.append (m := bs.length) (ws := bs.map U8) sl32 h1 0 rfl (hF _ h.tl) (by simp) (plain_map (fun _ => rfl) _) (by omega) (by omega) fun a2 c2 H2 h2 => ⟨_, _, _, rfl, by decide, by decide, by decide, ?_⟩
  have h3 : SatL H2 (slA 5 1 a2 (0 + bs.length) c2 ([] ++ bs.map U8) :: F) := h2
  rw [Nat.zero_add, List.nil_append] at h3
  rw [Nat.zero_add]
  have hc4 := le4_ref s0 s1
  refine h3.al fun b1 H3 h => ?_
  refine SatL.append (m := 4) (ws := (le4 (crcS bs)).map U8) sl32 h 1 rfl (h.ce_rd 0 (by rw [← hc4]; rfl)) (by simp [le4]) (plain_map (fun _ => rfl) _) (by omega) (by omega) fun a3 c3 H4 h4 => ⟨_, _, _, rfl, ?_⟩
  have := k a3 c3 H4
  unfold sealB at this
  rw [List.length_append, show (le4 (crcS bs)).length = 4 from rfl] at this
  refine this ?_
  rw [List.map_append]
  exact h4.tl

theorem sl_same {H : Heap} {a : Option Addr} {cs : List Value} {c : Nat} (h : rdS H a cs) (h0 : cs ≠ []) : slB a 0 c 1 = a := by
  cases cs with
  | nil => exact absurd rfl h0
  | cons v r => exact slB0 (h 0 v rfl).1

theorem R07Open_spec {a : Option Addr} {c : Nat} {bs : List Int} (h : SatL H F) (hF : ∀ H, SatL H F → rdS H a (bs.map U8)) (hl : bs.length ≤ 1099511627776) (hc : bs.length ≤ c)
    (k1 : ∀ a' c' p H', openM bs = (0, p) → SatL H' (slA 5 1 a' p.length c' (p.map U8) :: F) → K (.tuple #[.slice a' p.length c', .int .i64 0]) H')
    (k2 : ∀ e H', e ≠ 0 → openM bs = (e, []) → SatL H' F → K (.tuple #[.slice none 0 0, .int .i64 e]) H') :
    CallF Try.prog 99 #[.slice a bs.length c] H K := by
  refine R07_Open.call ?_
  unfold R07_Open.code
  have en : IntKind.i64.wrap ((bs.length : Int) - 4) = (bs.length : Int) - 4 := w64 (by omega) (by omega)
  rw [en]
  refine ⟨fun hx => ?_, fun hx => ?_⟩
  · have hlt : bs.length < 4 := by simp at hx; omega
    exact k2 15 _ (by decide) (by unfold openM; rw [if_pos hlt]) h
  · have hge : ¬ bs.length < 4 := by simp at hx; omega
    have e4 : (bs.length : Int) - 4 = ((bs.length - 4 : Nat) : Int) := by omega
    rw [e4, Int.toNat_natCast]
    have hsame : slB a 0 c 1 = a := sl_same (hF _ h) (by intro hx; have := congrArg List.length hx; simp at this; subst this; simp at hge)
    rw [hsame]
    obtain ⟨p, hp⟩ : ∃ p, bs.take (bs.length - 4) = p := ⟨_, rfl⟩
    have hpl : p.length = bs.length - 4 := by rw [← hp, List.length_take]; omega
    refine ⟨⟨by omega, by omega, by omega⟩, ?_⟩
    rw [← hpl]
    refine R07Seal_spec (bs := p) h (fun H h => by have := (hF H h).take (bs.length - 4); rwa [← List.map_take, hp] at this) (by omega) fun a1 c1 H1 h1 => ⟨_, _, _, rfl, ?_⟩
    have hsl := sealB_len p
    have hnc := h1.sl_nc 0 rfl
    have hob : openM bs = if sealB p = bs then (0, p) else (14, []) := by unfold openM; rw [if_neg hge, hp]
    have hpre : (sealB p).take p.length = bs.take p.length := by
      unfold sealB; rw [List.take_left, hpl, hp]
    refine ⟨fun i H' => H' = H1 ∧ ∃ j : Nat, i = j ∧ p.length ≤ j ∧ j ≤ bs.length ∧ (sealB p).take j = bs.take j, fun i _ => bs.length - i.toNat, ⟨rfl, p.length, rfl, Nat.le_refl _, by omega, hpre⟩, ?_⟩
    rintro i H' ⟨rfl, j, rfl, hj1, hj2, hj3⟩
    unfold R07_Open.l1
    have ew : IntKind.i64.wrap ((IntKind.i64.wrap ((bs.length : Int) - 4)) + 4) = bs.length := by
      rw [en, Int.sub_add_cancel]
      exact w64 (by omega) (by omega)
    rw [ew, en, e4, Int.toNat_natCast]
    refine ⟨fun hx => ?_, fun hx => ?_⟩
    · have hlt : j < bs.length := by simpa using hx
      have hs2 : j < (sealB p).length := by omega
      have r1 := (h1.sl_rd 0 rfl).at hs2
      have r2 := (hF _ h1.tl).at hlt
      refine ⟨⟨by omega, by omega⟩, _, _, r1.1, _, r1.2, ⟨by omega, by omega⟩, _, _, r2.1, _, r2.2, fun hd => ?_, fun hd => ?_⟩
      · have hne : (sealB p)[j] ≠ bs[j] := by simpa using hd
        refine k2 14 _ (by decide) ?_ h1.tl
        rw [hob, if_neg]
        intro e
        apply hne
        simp [e]
      · have heq : (sealB p)[j] = bs[j] := by simpa using hd
        rw [w64 (x := (j : Int) + 1) (by omega) (by omega)]
        refine ⟨⟨rfl, j + 1, rfl, by omega, hlt, ?_⟩, by dsimp only; omega⟩
        rw [List.take_succ_eq_append_getElem hs2, List.take_succ_eq_append_getElem hlt, hj3, heq]
    · have hj : j = bs.length := by simp at hx; omega
      subst hj
      have heq : sealB p = bs := by
        rw [List.take_length] at hj3
        rw [← hj3, List.take_of_length_le (by omega)]
      rw [← hpl]
      refine ⟨⟨by omega, by omega, by omega⟩, ?_⟩
      have hs1 : slB a1 0 c1 1 = a1 := sl_same (h1.sl_rd 0 rfl) (by intro hx; have := congrArg List.length hx; rw [List.length_map, hsl] at this; simp at this)
      rw [hs1]
      refine k1 a1 c1 p _ (by rw [hob, if_pos heq]) ?_
      have h4 := h1.sl_take 0 rfl p.length (by omega)
      rw [Nat.mul_one, ← List.map_take] at h4
      have e5 : (sealB p).take p.length = p := by unfold sealB; rw [List.take_left]
      rw [e5] at h4
      exact h4

theorem crcOpen_spec {a : Option Addr} {c : Nat} {bs : List Int} (h : SatL H F) (hF : ∀ H, SatL H F → rdS H a (bs.map U8)) (hb : isBytes bs) (hl : bs.length ≤ 1099511627776) (hc : bs.length ≤ c)
    (k1 : ∀ a' c' p H', openM bs = (0, p) → SatL H' (slA 5 1 a' p.length c' (p.map U8) :: F) → K (.tuple #[.slice a' p.length c', .int .i64 0]) H')
    (k2 : ∀ e H', e ≠ 0 → openM bs = (e, []) → SatL H' F → K (.tuple #[.slice none 0 0, .int .i64 e]) H') :
    CallF Try.prog 94 #[.slice a bs.length c] H K := by
  refine crc_Open.call ?_
  unfold crc_Open.code
  refine ⟨fun hx => ?_, fun hx => ?_⟩
  · have hlt : bs.length < 4 := by simp at hx; omega
    exact k2 15 _ (by decide) (by unfold openM; rw [if_pos hlt]) h
  · have hge : ¬ bs.length < 4 := by simp at hx; omega
    have en : IntKind.i64.wrap ((bs.length : Int) - 4) = ((bs.length - 4 : Nat) : Int) := by rw [w64 (by omega) (by omega)]; omega
    rw [en, Int.toNat_natCast]
    have hsame : slB a 0 c 1 = a := sl_same (hF _ h) (by intro hx; have := congrArg List.length hx; simp at this; subst this; simp at hge)
    rw [hsame]
    obtain ⟨va, vb, vc, vd, e1, e2⟩ := last4 hge
    obtain ⟨p, hp⟩ : ∃ p, bs.take (bs.length - 4) = p := ⟨_, rfl⟩
    have hpl : p.length = bs.length - 4 := by rw [← hp, List.length_take]; omega
    rw [hp] at e1
    have hr := (hF _ h).subB (k := bs.length - 4) (c := c) (by simpa using hc)
    rw [← List.map_drop, e2] at hr
    have q0 := hr 0 _ rfl
    have q1 := hr 1 _ rfl
    have q2 := hr 2 _ rfl
    have q3 := hr 3 _ rfl
    refine ⟨⟨by omega, by omega, by omega⟩, ⟨by omega, by omega, by omega⟩, ⟨by omega, by omega⟩, _, _, q0.1, _, q0.2, ⟨by omega, by omega⟩, _, _, q0.1, _, q1.2, by decide, ⟨by omega, by omega⟩, _, _, q0.1, _, q2.2, by decide, ⟨by omega, by omega⟩, _, _, q0.1, _, q3.2, by decide, ?_⟩
    rw [← hpl]
    have hpb : ∀ H, SatL H F → rdS H a (p.map U8) := fun H h => by
      have := (hF H h).take (bs.length - 4)
      rwa [← List.map_take, hp] at this
    refine h.al fun b4 H1 h => ?_
    have hq := Sum_spec (c := 1) (parts := [⟨a, c, p⟩]) (h.ce_rd 0 rfl) (fun y hy => by
      rw [List.mem_singleton] at hy; subst hy; exact hpb _ h.tl) (by simp) (fun y hy => by rw [List.mem_singleton] at hy; subst hy; dsimp only; omega)
    simp only [List.flatMap_cons, List.flatMap_nil, List.append_nil] at hq
    refine ⟨_, hq, ?_⟩
    have hmem : ∀ x ∈ [va, vb, vc, vd], 0 ≤ x ∧ x < 256 := fun x hx => hb x (by rw [e1]; exact List.mem_append_right _ hx)
    have ba := hmem va (by simp)
    have bb := hmem vb (by simp)
    have bc := hmem vc (by simp)
    have bd := hmem vd (by simp)
    rw [sum_code ba bb bc bd]
    obtain ⟨s0, s1⟩ := crcS_in p
    have hv := le4_val s0 s1 ba bb bc bd
    have hob : openM bs = if sealB p = bs then (0, p) else (14, []) := by unfold openM; rw [if_neg hge, hp]
    have hiff : sealB p = bs ↔ le4 (crcS p) = [va, vb, vc, vd] := by
      unfold sealB
      constructor
      · intro e
        rw [e1] at e
        exact List.append_cancel_left e
      · intro e
        rw [e]
        exact e1.symm
    refine ⟨fun hx => ?_, fun hx => ?_⟩
    · have hne : ¬ va + 256 * vb + 65536 * vc + 16777216 * vd = crcS p := by simpa using hx
      exact k2 14 _ (by decide) (by rw [hob, if_neg]; rw [hiff, hv]; exact hne) h.tl
    · have heq : va + 256 * vb + 65536 * vc + 16777216 * vd = crcS p := by simpa using hx
      refine bClone_own h.tl hpb (by omega) fun a' c' H2 h => ⟨_, _, _, rfl, k1 _ _ _ _ ?_ h⟩
      rw [hob, if_pos]
      rw [hiff, hv]
      exact heq

theorem crcSeal_spec {b o c : Nat} {parts : List Fy} (h : SatL H F) (ha : ∀ H, SatL H F → rdS H (some ⟨b, o, none⟩) (parts.map encY)) (hp : ∀ H, SatL H F → ∀ y ∈ parts, rdS H y.a (y.bs.map U8)) (hA : ∀ y ∈ parts, y.a = none ∨ ∃ b o, y.a = some ⟨b, o, none⟩)
    (hb : ∀ y ∈ parts, isBytes y.bs) (h2 : 2 ≤ parts.length) (hc : parts.length ≤ c) (hn : parts.length ≤ 1000) (hl : (parts.flatMap Fy.bs).length ≤ 1099511627776) (hl0 : 0 < (parts.flatMap Fy.bs).length)
    (k : ∀ a' c' H', SatL H' (slA 5 1 a' (sealB (parts.flatMap Fy.bs)).length c' ((sealB (parts.flatMap Fy.bs)).map U8) :: F) → K (.slice a' (sealB (parts.flatMap Fy.bs)).length c') H') :
    CallF Try.prog 67 #[.slice (some ⟨b, o, none⟩) parts.length c] H K := by
  refine crc_Seal.call ?_
  unfold crc_Seal.code
  have hyl : ∀ y ∈ parts, y.bs.length ≤ 1099511627776 := fun y hy => by
    refine Nat.le_trans ?_ hl
    obtain ⟨s, t, rfl⟩ := List.append_of_mem hy
    simp only [List.flatMap_append, List.flatMap_cons, List.length_append]
    omega
  have hq := Sum_spec (c := c) (ha _ h) (hp _ h) (by omega) hyl
  refine ⟨_, hq, ?_⟩
  obtain ⟨bs, hbs⟩ : ∃ bs, parts.flatMap Fy.bs = bs := ⟨_, rfl⟩
  rw [hbs] at hl hl0 k hq ⊢
  obtain ⟨s0, s1⟩ := crcS_in bs
  have hbb : isBytes bs := by
    rw [← hbs]
    intro x hx
    obtain ⟨y, hy, hx⟩ := List.mem_flatMap.1 hx
    exact hb y hy x hx
  intro w hw
  subst hw
  have hlen : ∀ l : List Fy, Lib.lens (l.map fun y => Lib.bytesOf y.bs) = (l.flatMap Fy.bs).length := by
    intro l
    induction l with
    | nil => rfl
    | cons y r ih =>
      simp only [Lib.lens, List.map_cons, List.sum_cons, List.flatMap_cons, List.length_append] at ih ⊢
      rw [ih]
      simp [Lib.bytesOf]
  have hjoin : ∀ l : List Fy, Lib.join (l.map fun y => Lib.bytesOf y.bs) [] = Lib.bytesOf (l.flatMap Fy.bs) := by
    intro l
    have : ∀ l : List Fy, (l.map fun y => Lib.bytesOf y.bs).flatten = Lib.bytesOf (l.flatMap Fy.bs) := by
      intro l
      induction l with
      | nil => rfl
      | cons y r ih => simp only [List.map_cons, List.flatten_cons, List.flatMap_cons, ih]; simp [Lib.bytesOf]
    cases l with
    | nil => rfl
    | cons y r =>
      rw [List.map_cons, Lib.join_cons]
      unfold Lib.joinTail
      simp only [List.nil_append, List.map_id']
      rw [this r]
      simp [Lib.bytesOf]
  have hpa : Lib.PartsAt w ⟨b, o, none⟩ (parts.map encY) (parts.map fun y => Lib.bytesOf y.bs) := by
    refine ⟨by simp, fun i v hv => ?_, fun i v l hv hl' => ?_⟩
    · rw [Addr_add, cell?_cellAt]
      exact (ha _ h i v (by rw [lget_eq']; exact hv)).2
    · rw [List.getElem?_map, Option.map_eq_some_iff] at hv hl'
      obtain ⟨y, hy, rfl⟩ := hv
      obtain ⟨y', hy', rfl⟩ := hl'
      rw [hy] at hy'
      cases hy'
      have hm : y ∈ parts := List.mem_of_getElem? hy
      have hry := hp _ h y hm
      refine ⟨y.a, y.c, by simp [Lib.bytesOf], fun hno => ?_, fun a' ha' i x hx => ?_⟩
      · rw [hno] at hry
        have := rdS_none hry
        simp at this
        simp [Lib.bytesOf, this]
      · have hil : i < y.bs.length := by
          have := (List.getElem?_eq_some_iff.1 hx).1
          simpa [Lib.bytesOf] using this
        have h1 := hry.at hil
        rw [ha'] at h1
        rcases hA y hm with e | ⟨b', o', e⟩
        · rw [ha'] at e; cases e
        · rw [ha'] at e
          cases e
          rw [Addr_add, cell?_cellAt]
          simp only [adrB, adrO] at h1
          rw [h1.2]
          simp only [Lib.bytesOf, List.getElem?_map, List.getElem?_eq_getElem hil, Option.map_some, Option.some.injEq] at hx
          rw [← hx, u8_bytes (hb y hm)]
  have hs : Lib.HoldsBytes w (.slice none 0 0) [] := ⟨none, 0, rfl, fun _ => rfl, fun a ha => by cases ha⟩
  have hcall := Any.bytes_Join_many Try.joinA b o parts.length c (parts.map encY) (parts.map fun y => Lib.bytesOf y.bs) (.slice none 0 0) [] w (by simp) h2 hpa hc hs (by omega) (by rw [hlen, hbs]; simp; omega)
  refine fin_of_calls hcall ?_
  rintro e w' ⟨v', rfl, hfr, hbl⟩
  refine ⟨_, rfl, rest_of_below hbl, ?_⟩
  rw [hjoin, hbs] at hfr
  obtain ⟨g, cap, zs, rfl, hg1, hg2, hg3, hg4, hg5, hg6, hg7, hg8⟩ := hfr
  have hbl2 : (Lib.bytesOf bs).length = bs.length := by simp [Lib.bytesOf]
  rw [hbl2] at hg2 hg6 ⊢
  have hz : zs.take bs.length = bs := by
    have hzl : (zs.take bs.length).length = bs.length := by rw [List.length_take]; omega
    refine List.ext_getElem hzl fun i h1 h2 => ?_
    have e1 := congrArg (fun l : List UInt8 => l[i]?) hg6
    simp only [Lib.bytesOf, List.getElem?_map, List.getElem?_eq_getElem h1, List.getElem?_eq_getElem h2, Option.map_some, Option.some.injEq] at e1
    have b1 := u8_bytes (xs := zs.take bs.length) (fun x hx => hg5 x (List.mem_of_mem_take hx)) i h1
    have b2 := u8_bytes hbb i h2
    rw [← b1, ← b2, e1]
  have hC : ∃ (C : Array Value) (e' : TypeId) (fr : Nat × Nat), w'.heap[g]? = some (.cells C e' fr) := by
    have h0 := hg7 0 (by omega)
    unfold World.cell? at h0
    split at h0
    · rename_i C e' fr hh; exact ⟨C, e', fr, hh⟩
    · cases h0
  obtain ⟨C, e', fr, hC⟩ := hC
  have hcell : ∀ i, i < cap → C.toList[i]? = some (U8 (zs.getD i 0)) := fun i hi => by
    have h0 := hg7 i hi
    rw [cell?_cellAt] at h0
    unfold cellAt at h0
    rw [hC] at h0
    simpa using h0
  have hCl : cap ≤ C.toList.length := by
    rcases Nat.eq_zero_or_pos cap with h0 | h0
    · omega
    · have := (List.getElem?_eq_some_iff.1 (hcell (cap - 1) (by omega))).1
      omega
  have hCe : C.toList = bs.map U8 ++ C.toList.drop bs.length := by
    rw [← List.take_append_drop bs.length C.toList]
    congr 1
    · refine List.ext_getElem? fun i => ?_
      rcases Nat.lt_or_ge i bs.length with hi | hi
      · rw [List.getElem?_take_of_lt hi, hcell i (by omega), List.getElem?_map, List.getElem?_eq_getElem hi, Option.map_some]
        have : zs.getD i 0 = bs[i] := by
          have h1 : i < (zs.take bs.length).length := by rw [hz]; exact hi
          have h2 : (zs.take bs.length)[i] = bs[i] := by simp only [hz]
          rw [← h2, List.getElem_take]
          have h3 : i < zs.length := by omega
          rw [List.getD, List.getElem?_eq_getElem h3]
          rfl
        rw [this]
      · rw [List.getElem?_eq_none (by rw [List.length_take]; omega), List.getElem?_eq_none (by simpa using hi)]
    · rw [List.take_append_drop]
  have hnew : SatL w'.heap (slA 5 1 (some ⟨g, 0, none⟩) bs.length cap (bs.map U8) :: F) := by
    refine (h.new (grow_of_below hbl) hg1 hC).mono fun p hp => ⟨by simp, .inr ⟨g, [], C.toList.drop bs.length, e', fr, rfl, hg2, by rw [List.length_drop]; omega, fun _ i h1 h2 hh => ?_, ?_⟩⟩
    · have := hg8 i (by simp at h2; omega)
      unfold World.frozen? at this
      rw [hC] at this
      simp only [Bool.and_eq_false_iff, decide_eq_false_iff_not] at this
      omega
    · rw [List.nil_append, ← hCe]
      exact hp
  refine ⟨_, _, _, rfl, by decide, by decide, by decide, ?_⟩
  have hc4 := le4_code s0 s1
  refine hnew.al fun b1 H3 h => ?_
  refine SatL.append (m := 4) (ws := (le4 (crcS bs)).map U8) sl32 h 1 rfl (h.ce_rd 0 (by rw [← hc4]; rfl)) (by simp [le4]) (plain_map (fun _ => rfl) _) (by omega) (by omega) fun a3 c3 H4 h4 => ⟨_, _, _, rfl, ?_⟩
  have := k a3 c3 H4
  unfold sealB at this
  rw [List.length_append, show (le4 (crcS bs)).length = 4 from rfl] at this
  refine this ?_
  rw [List.map_append]
  exact h4.tl
end
end Go.Proofs.Ytomdcdfcdeaabaa
