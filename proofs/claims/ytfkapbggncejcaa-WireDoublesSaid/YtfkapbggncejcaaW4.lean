/-
  The wire's functions, walked (4).
-/
import Derived.Test.YtfkapbggncejcaaW3
set_option linter.unusedVariables false
set_option linter.unusedSimpArgs false
namespace Go.Proofs.Ytfkapbggncejcaa
open Go Go.Nm Go.Proofs

section
variable {wb mb : Nat} {most next : Int} {m : PM} {Q : Assn} {F : List Assn} {H : Heap} {K : Value → Heap → Prop}

theorem of_spec {la : Option Addr} {lc : Nat} {list : List Pk} (h : SatL H (Q :: F))
    (hl : ∀ Q' H, Sub Q Q' → SatL H (Q' :: F) → rdS H la (flat encP list) ∧ ∀ p ∈ list, rdS H p.a (p.bytes.map U8)) (hb : ∀ p ∈ list, p.bytes.length ≤ 1000000) (hlen : list.length ≤ 1000000)
    (k : ∀ Q' a c (out : List Pk) H', Sub Q Q' → out.map Pk.core = list.map Pk.core → (∀ p ∈ out, p.In Q') → SatL H' (slA 42 4 a out.length c (flat encP out) :: Q' :: F) → K (.slice a out.length c) H') :
    CallF Try.prog 11 #[.slice la list.length lc] H K := by
  refine of.call ?_
  unfold of.code
  refine h.al fun b _ h => ?_
  have h : SatL _ (slA 42 4 (some ⟨b, 0, none⟩) 0 0 (flat encP []) :: Q :: F) := SatL.sl_pt (cs := []) h 4 0 rfl
  refine ⟨fun outa outn outc i H' => ∃ (j : Nat) (Q' : Assn) (out : List Pk), i = j ∧ j ≤ list.length ∧ outn = out.length ∧ out.map Pk.core = (list.take j).map Pk.core ∧ Sub Q Q' ∧ (∀ p ∈ out, p.In Q') ∧
      SatL H' (slA 42 4 outa out.length outc (flat encP out) :: Q' :: F), fun _ _ _ i _ => list.length - i.toNat,
    ⟨0, Q, [], rfl, Nat.zero_le _, rfl, rfl, Sub.refl Q, fun p hp => (by cases hp), h⟩, ?_⟩
  rintro outa outn outc i H1 ⟨j, Q', out, rfl, hj, rfl, hcore, hs, hin, h⟩
  have hol : out.length = j := by have := congrArg List.length hcore; simpa [Nat.min_eq_left hj] using this
  unfold of.l1
  refine ⟨fun hc => ?_, fun hc => ?_⟩
  · have hlt : j < list.length := by have := of_decide_eq_true hc; omega
    have hr := (hl Q' H1 hs h.tl).1
    have hsome := hr.some encP_len (by omega) hlt
    have hp := List.getElem_mem hlt
    refine ⟨⟨by omega, by omega⟩, _, _, hsome, _, hr.el0 encP_len hlt rfl, ⟨by omega, by omega⟩, _, _, hsome, _, hr.el encP_len hlt 1 rfl, ⟨by omega, by omega⟩, _, _, hsome, _, hr.el encP_len hlt 2 rfl, ⟨by omega, by omega⟩, _, _, hsome, _, _, _, hr.el encP_len hlt 3 rfl, ?_⟩
    refine CopyBytes_spec (bs := list[j].bytes) (h.ordt [1, 0] 2 (by decide) (by decide)) (fun H h => (hl Q' H hs (h.ordt [0] 2 (by decide) (by decide))).2 _ hp) (hb _ hp) fun Q2 a' c' H3 hs2 hk h => ⟨_, _, _, rfl, ?_⟩
    have hr := (hl Q2 H3 (hs.trans hs2) (h.ordt [0] 2 (by decide) (by decide))).1
    refine ⟨hr.el encP_len hlt 2 rfl, hr.el encP_len hlt 1 rfl, hr.el0 encP_len hlt rfl, ?_⟩
    refine h.al fun b5 _ h => ?_
    refine SatL.append (m := 1) (ws := encP ⟨list[j].up, list[j].agent, list[j].sent, a', c', list[j].bytes⟩) sl43 h 2 rfl (h.ce_rd 0 rfl) rfl rfl (by omega) (by omega) fun a2 c2 H4 h => ⟨_, _, _, rfl, ?_⟩
    rw [w64 (x := (j : Int) + 1) (by omega) (by omega)]
    refine ⟨⟨j + 1, Q2, out ++ [⟨list[j].up, list[j].agent, list[j].sent, a', c', list[j].bytes⟩], rfl, hlt, by simp, ?_, hs.trans hs2, fun p hp => ?_, ?_⟩, by simp only [Int.toNat_natCast]; omega⟩
    · rw [List.map_append, hcore, List.take_succ_eq_append_getElem hlt, List.map_append]; rfl
    · rcases List.mem_append.1 hp with hp | hp
      · exact (hin p hp).sub hs2
      · rw [List.mem_singleton] at hp; subst hp; exact ⟨hk, hb list[j] (List.getElem_mem hlt)⟩
    · rw [flat_append, flat_one, List.length_append, List.length_singleton]
      exact h.ordt [2, 1] 3 (by decide) (by decide)
  · obtain rfl : j = list.length := by have := of_decide_eq_false hc; omega
    rw [List.take_of_length_le (Nat.le_refl _)] at hcore
    exact k Q' outa outc out H1 hs hcore hin h

def pf (up : Bool) (agent : Int) (p : Int × Pk) : Bool := p.2.up == up && decide (p.2.agent = agent)
theorem For_spec {up : Bool} {agent : Int} (ok : WOk Q most next m) (hn : next ≤ 1125899906842624) (h : SatL H (wireC wb mb most next :: mapW mb m :: F))
    (k : ∀ a c (l : List Int) H', l = sortI (keysOf (m.filter (pf up agent))) → SatL H' (slA 2 1 a l.length c (l.map I64) :: wireC wb mb most next :: mapW mb m :: F) → K (.slice a l.length c) H') :
    CallF Try.prog 15 #[.pointer (some ⟨wb, 0, none⟩), .bool up, I64 agent] H K := by
  have hsm := WOk.small ok
  refine wire_For.call ?_
  unfold wire_For.code
  refine ⟨_, h.rd 0 rfl _, h.rg_new mt29 1 rfl fun it H1 h => ⟨_, rfl, ?_⟩⟩
  have h := h.sl_nil 2 1
  refine ⟨fun la ln lc H' => ∃ (dn : PM), ln = (dn.filter (pf up agent)).length ∧
      SatL H' (slA 2 1 la (keysOf (dn.filter (pf up agent))).length lc ((keysOf (dn.filter (pf up agent))).map I64) :: wireC wb mb most next :: rngA I64 aggP it mb m dn :: F),
    fun _ _ _ H' => m.length - iterN H' it, ⟨[], rfl, h⟩, ?_⟩
  rintro la ln lc H2 ⟨dn, rfl, h⟩
  unfold wire_For.l3
  obtain ⟨hc0, hle⟩ := h.rg_count 2 rfl
  refine h.rg_next 2 rfl (fun hp => Or.inl ⟨rfl, fun hf => (by cases hf), fun _ => ?_⟩) fun p hpm hpn H3 h => Or.inr ⟨_, _, rfl, fun _ => ?_, fun hf => (by cases hf)⟩
  · have h := h.rg_map 2 rfl
    have hlen : (keysOf (dn.filter (pf up agent))).length ≤ dn.length := by
      simp only [keysOf, List.length_map]; exact List.length_filter_le _ _
    have e1 : (dn.filter (pf up agent)).length = (keysOf (dn.filter (pf up agent))).length := by simp [keysOf]
    rw [e1]
    refine Sort_call h 0 rfl (by omega) fun H4 h => ⟨rfl, ?_⟩
    have hpp := sortI_perm ((hp.filter (pf up agent)).map Prod.fst)
    have e2 : (keysOf (dn.filter (pf up agent))).length = (sortI (keysOf (dn.filter (pf up agent)))).length := (sortI_length _).symm
    rw [e2] at h ⊢
    exact k la lc _ H4 hpp h
  · have hent := SatL.rg_entry (P := Try.prog) h 2 rfl
    obtain ⟨hc1, hle1⟩ := h.rg_count 2 rfl
    rw [List.length_append, List.length_singleton] at hc1 hle1
    refine ⟨_, _, _, _, _, _, _, hent, ?_⟩
    refine h.al fun b2 _ h => ?_
    refine h.st 0 rfl rfl fun _ h => ?_
    refine ⟨_, h.rd 0 rfl _, _, fun _ => h.rd 0 rfl _, ?_⟩
    intro Jn hJ
    refine ⟨fun hc => ?_, fun hc => ?_⟩
    · refine h.al fun b3 _ h => ?_
      have hlen : (keysOf (dn.filter (pf up agent))).length ≤ dn.length := by
        simp only [keysOf, List.length_map]; exact List.length_filter_le _ _
      have e1 : (dn.filter (pf up agent)).length = (keysOf (dn.filter (pf up agent))).length := by simp [keysOf]
      rw [e1]
      refine SatL.append (m := 1) (ws := [I64 p.1]) sl46 h 2 rfl (h.ce_rd 0 rfl) rfl rfl (by omega) (by omega) fun a2 c2 H4 h => ⟨_, _, _, rfl, hJ _ _ _ _ ?_⟩
      unfold wire_For.r2
      have e3 : (dn ++ [p]).filter (pf up agent) = dn.filter (pf up agent) ++ [p] := by
        rw [List.filter_append, List.filter_cons_of_pos (show pf up agent p = true from hc)]; rfl
      refine ⟨⟨dn ++ [p], by rw [e3]; simp [keysOf], ?_⟩, ?_⟩
      · rw [e3]
        have h9 : SatL H4 (slA 2 1 a2 ((keysOf (dn.filter (pf up agent))).length + 1) c2 ((keysOf (dn.filter (pf up agent))).map I64 ++ [I64 p.1]) :: wireC wb mb most next :: rngA I64 aggP it mb m (dn ++ [p]) :: F) := h.ordt [2, 3, 4] 5 (by decide) (by decide)
        simpa [keysOf] using h9
      · obtain ⟨hc4, _⟩ := h.rg_count 4 rfl
        rw [List.length_append, List.length_singleton] at hc4
        simp only
        omega
    · refine hJ _ _ _ _ ?_
      unfold wire_For.r2
      have e3 : (dn ++ [p]).filter (pf up agent) = dn.filter (pf up agent) := by
        rw [List.filter_append, List.filter_cons_of_neg (by rw [show pf up agent p = false from hc]; decide)]; simp
      refine ⟨⟨dn ++ [p], by rw [e3], ?_⟩, ?_⟩
      · rw [e3]
        exact h.ordt [1, 2, 3] 4 (by decide) (by decide)
      · obtain ⟨hc4, _⟩ := h.rg_count 3 rfl
        rw [List.length_append, List.length_singleton] at hc4
        simp only
        omega
end
end Go.Proofs.Ytfkapbggncejcaa
