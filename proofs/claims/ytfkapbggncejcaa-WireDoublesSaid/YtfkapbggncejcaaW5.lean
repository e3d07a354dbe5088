/-
  The wire's functions, walked (5).
-/
import Derived.Test.YtfkapbggncejcaaW4
set_option linter.unusedVariables false
set_option linter.unusedSimpArgs false
namespace Go.Proofs.Ytfkapbggncejcaa
open Go Go.Nm Go.Proofs

structure CD where
  what : Int
  n : Int
  la : Option Addr
  lc : Nat
  list : List Pk
def encC (c : CD) : List Value := [I64 c.what, I64 c.n, .slice c.la c.list.length c.lc]
theorem encC_len (c : CD) : (encC c).length = 3 := rfl
def CallOk (H : Heap) (x : CD) : Prop := rdS H x.la (flat encP x.list) ∧ ∀ p ∈ x.list, rdS H p.a (p.bytes.map U8)
def bigP (p : Pk) : Bool := decide (100 < p.bytes.length)
def bigC (x : CD) : Bool := decide (20 < x.list.length) || x.list.any bigP
def greatB (calls : List CD) : Bool := decide (60 < calls.length) || calls.any bigC

section
variable {wb mb : Nat} {most next : Int} {m : PM} {Q : Assn} {F : List Assn} {H : Heap} {K : Value → Heap → Prop}

theorem great_spec {ca : Option Addr} {cc : Nat} {calls : List CD} (hc : rdS H ca (flat encC calls)) (hq : ∀ x ∈ calls, CallOk H x) : CallQ Try.prog 6 #[.slice ca calls.length cc] H (.bool (greatB calls)) := by
  unfold CallQ
  refine great.call ?_
  unfold great.code
  refine ⟨fun hc1 => ?_, fun hc1 => ?_⟩
  · have : 60 < calls.length := by have := of_decide_eq_true hc1; omega
    exact ⟨by simp [greatB, this], rfl⟩
  · have hle : ¬ 60 < calls.length := by have := of_decide_eq_false hc1; omega
    refine ⟨fun i H' => H' = H ∧ ∃ k : Nat, i = k ∧ k ≤ calls.length ∧ calls.any bigC = (calls.drop k).any bigC, fun i _ => calls.length - i.toNat, ⟨rfl, 0, rfl, Nat.zero_le _, rfl⟩, ?_⟩
    rintro i H' ⟨rfl, k, rfl, hk, hm⟩
    unfold great.l2
    refine ⟨fun hc2 => ?_, fun hc2 => ?_⟩
    · have hlt : k < calls.length := by have := of_decide_eq_true hc2; omega
      have hx := hq _ (List.getElem_mem hlt)
      have e3 : IntKind.i64.wrap ((k : Int) + 1) = ((k + 1 : Nat) : Int) := w64 (by omega) (by omega)
      have hsome := hc.some encC_len (by omega) hlt
      have hcell := hc.el encC_len hlt 2 rfl
      rw [List.drop_eq_getElem_cons hlt, List.any_cons] at hm
      refine ⟨⟨by omega, by omega⟩, _, _, hsome, _, _, _, hcell, fun hc3 => ?_, fun hc3 => ?_⟩
      · have : 20 < calls[k].list.length := by have := of_decide_eq_true hc3; omega
        exact ⟨by rw [greatB, hm, bigC]; simp [this], rfl⟩
      · have h20 : ¬ 20 < calls[k].list.length := by have := of_decide_eq_false hc3; omega
        refine ⟨fun kk H'' => H'' = H' ∧ ∃ j : Nat, kk = j ∧ j ≤ calls[k].list.length ∧ calls[k].list.any bigP = (calls[k].list.drop j).any bigP, fun kk _ => calls[k].list.length - kk.toNat, ⟨rfl, 0, rfl, Nat.zero_le _, rfl⟩, ?_⟩
        rintro kk H'' ⟨rfl, j, rfl, hj, hmj⟩
        unfold great.l1
        refine ⟨⟨by omega, by omega⟩, _, _, hsome, _, _, _, hcell, fun hc4 => ?_, fun hc4 => ?_⟩
        · have hjl : j < calls[k].list.length := by have := of_decide_eq_true hc4; omega
          have e4 : IntKind.i64.wrap ((j : Int) + 1) = ((j + 1 : Nat) : Int) := w64 (by omega) (by omega)
          rw [List.drop_eq_getElem_cons hjl, List.any_cons] at hmj
          refine ⟨⟨by omega, by omega⟩, _, _, hsome, _, _, _, hcell, ⟨by omega, by omega⟩, _, _, hx.1.some encP_len (by omega) hjl, _, _, _, hx.1.el encP_len hjl 3 rfl, fun hc5 => ?_, fun hc5 => ?_⟩
          · have : bigP calls[k].list[j] = true := by have := of_decide_eq_true hc5; unfold bigP; rw [decide_eq_true (by omega)]
            exact ⟨by rw [greatB, hm, bigC, hmj]; simp [this], rfl⟩
          · have : bigP calls[k].list[j] = false := by have := of_decide_eq_false hc5; unfold bigP; rw [decide_eq_false (by omega)]
            rw [this, Bool.false_or] at hmj
            rw [e4]
            exact ⟨⟨rfl, j + 1, rfl, hjl, hmj⟩, by simp only [Int.toNat_natCast]; omega⟩
        · obtain rfl : j = calls[k].list.length := by have := of_decide_eq_false hc4; omega
          have hz : bigC calls[k] = false := by
            unfold bigC; rw [hmj, List.drop_length, decide_eq_false h20]; rfl
          rw [hz, Bool.false_or] at hm
          rw [e3]
          exact ⟨⟨rfl, k + 1, rfl, hlt, hm⟩, by simp only [Int.toNat_natCast]; omega⟩
    · obtain rfl : k = calls.length := by have := of_decide_eq_false hc2; omega
      exact ⟨by rw [greatB, hm, List.drop_length, decide_eq_false hle]; rfl, rfl⟩

theorem great_not {calls : List CD} (h : greatB calls = false) : calls.length ≤ 60 ∧ ∀ x ∈ calls, x.list.length ≤ 20 ∧ ∀ p ∈ x.list, p.bytes.length ≤ 100 := by
  unfold greatB at h
  simp only [Bool.or_eq_false_iff, decide_eq_false_iff_not, List.any_eq_false] at h
  refine ⟨by omega, fun x hx => ?_⟩
  have := h.2 x hx
  unfold bigC at this
  simp only [Bool.not_eq_true, Bool.or_eq_false_iff, decide_eq_false_iff_not, List.any_eq_false] at this
  refine ⟨by omega, fun p hp => ?_⟩
  have := this.2 p hp
  unfold bigP at this
  simp at this
  exact this

theorem Clone_spec (ok : WOk Q most next m) (hn : next ≤ 1125899906842624) (h : SatL H (wireC wb mb most next :: mapW mb m :: Q :: F))
    (k : ∀ Q' cb cm m' H', Sub Q Q' → (cores m').Perm (cores m) → WOk Q' most next m' → SatL H' (wireC cb cm most next :: mapW cm m' :: wireC wb mb most next :: mapW mb m :: Q' :: F) → K (.pointer (some ⟨cb, 0, none⟩)) H') :
    CallF Try.prog 18 #[.pointer (some ⟨wb, 0, none⟩)] H K := by
  have hsm := WOk.small ok
  refine wire_Clone.call ?_
  unfold wire_Clone.code
  refine ⟨_, h.rd 0 rfl _, _, h.rd 0 rfl _, ?_⟩
  refine h.alm I64 aggP fun cm _ h => ⟨h.rd 1 rfl _, h.rd 1 rfl _, ?_⟩
  refine h.al fun cb _ h => ⟨_, h.rd 2 rfl _, h.rg_new mt29 3 rfl fun it H1 h => ⟨_, rfl, ?_⟩⟩
  refine ⟨fun H' => ∃ (dn : PM) (Q' : Assn) (m' : PM), Sub Q Q' ∧ (cores m').Perm (cores dn) ∧ (∀ p ∈ m', p.2.In Q') ∧ (∀ p ∈ dn, p ∈ m) ∧ (keysOf dn).Nodup ∧
      SatL H' (wireC cb cm most next :: mapW cm m' :: wireC wb mb most next :: rngA I64 aggP it mb m dn :: Q' :: F), fun H' => m.length - iterN H' it,
    ⟨[], Q, [], Sub.refl Q, .refl _, fun p hp => (by cases hp), fun p hp => (by cases hp), List.nodup_nil, h⟩, ?_⟩
  rintro H2 ⟨dn, Q', m', hs, hperm, hin, hsub, hnd, h⟩
  unfold wire_Clone.l1
  obtain ⟨hc0, hle⟩ := h.rg_count 3 rfl
  have hkeys : (keysOf m').Perm (keysOf dn) := by
    have := hperm.map Prod.fst
    simpa [cores, keysOf, Function.comp_def] using this
  refine h.rg_next 3 rfl (fun hp => Or.inl ⟨rfl, fun hf => (by cases hf), fun _ => ?_⟩) fun p hpm hpn H3 h => Or.inr ⟨_, _, rfl, fun _ => ?_, fun hf => (by cases hf)⟩
  · have h := h.rg_map 3 rfl
    have hpm : (cores m').Perm (cores m) := hperm.trans (hp.map _)
    refine k Q' cb cm m' _ hs hpm ⟨ok.m1, ok.m2, ?_, fun q hq => ?_, ok.next0, hin, fun q hq => ?_, (hkeys.trans (hp.map _)).nodup_iff.2 ok.nd⟩ h
    · have := hpm.length_eq
      simp only [cores, List.length_map] at this
      rw [this]; exact ok.len
    · obtain ⟨r, hr, he⟩ := List.mem_map.1 (hpm.mem_iff.1 (List.mem_map.2 ⟨q, hq, rfl⟩))
      have := ok.keys r hr
      have e1 : r.1 = q.1 := congrArg (fun x : Int × Core => x.1) he
      rw [← e1]; exact this
    · obtain ⟨r, hr, he⟩ := List.mem_map.1 (hpm.mem_iff.1 (List.mem_map.2 ⟨q, hq, rfl⟩))
      have := ok.ag r hr
      have e1 : r.2.agent = q.2.agent := congrArg (fun x : Int × Core => x.2.2.1) he
      rw [← e1]; exact this
  · have hent := SatL.rg_entry (P := Try.prog) h 3 rfl
    obtain ⟨hc1, hle1⟩ := h.rg_count 3 rfl
    rw [List.length_append, List.length_singleton] at hc1 hle1
    have hpin := ok.ins p hpm
    refine ⟨_, _, _, _, _, _, _, hent, ?_⟩
    refine h.al fun b2 _ h => ?_
    refine h.st 0 rfl rfl fun _ h => ?_
    refine ⟨_, h.rd 1 rfl _, _, _, _, _, _, _, h.rds 0 rfl rfl, ?_⟩
    refine copied_spec (p := p.2) (h.ordt [5, 1, 2, 3, 4] 6 (by decide) (by decide)) (fun H h => (hpin.1.sub hs) H _ h) hpin.2 fun Q2 p' H4 hs2 hi hcore h => ⟨_, _, _, _, _, _, rfl, ?_⟩
    refine ⟨h.rd 1 rfl _, h.mp_update (α := Pk) (v := p') mt29 ko2 2 rfl fun H5 h => ⟨⟨dn ++ [p], Q2, mset p.1 p' m', hs.trans hs2, ?_, fun q hq => ?_, fun q hq => ?_, ?_, h.ordt [1, 2, 3, 4, 0] 5 (by decide) (by decide)⟩, ?_⟩⟩
    · have hnone : mlook p.1 m' = none := mlook_none.2 fun hm => hpn (hkeys.mem_iff.1 hm)
      unfold mset
      rw [mdel_of_none hnone]
      have : cores ((p.1, p') :: m') = (p.1, p.2.core) :: cores m' := by show (p.1, p'.core) :: cores m' = _; rw [hcore]
      rw [this]
      have e2 : cores (dn ++ [p]) = cores dn ++ [(p.1, p.2.core)] := by simp [cores]
      rw [e2]
      exact (hperm.cons _).trans (List.perm_append_comm (l₁ := [(p.1, p.2.core)]))
    · rcases List.mem_cons.1 hq with rfl | hq
      · exact hi
      · exact (hin q (mem_mdel.1 hq).1).sub hs2
    · rcases List.mem_append.1 hq with hq | hq
      · exact hsub q hq
      · rw [List.mem_singleton] at hq; subst hq; exact hpm
    · simp only [keysOf, List.map_append, List.map_cons, List.map_nil]
      exact List.nodup_append.2 ⟨hnd, by simp, fun a ha b hb => by simp at hb; subst hb; exact fun e => hpn (e ▸ ha)⟩
    · obtain ⟨hc4, _⟩ := h.rg_count 4 rfl
      rw [List.length_append, List.length_singleton] at hc4
      simp only
      omega
end
end Go.Proofs.Ytfkapbggncejcaa
