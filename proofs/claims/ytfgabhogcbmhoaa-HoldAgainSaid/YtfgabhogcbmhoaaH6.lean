/-
  The arguments of the laws, and HoldCalls.
-/
import Derived.Test.YtfgabhogcbmhoaaH5
import Derived.Test.YtfgabhogcbmhoaaRows
set_option linter.unusedVariables false
set_option linter.unusedSimpArgs false
namespace Go.Nm
open Go
theorem flat_ones {α : Type} (f : α → Value) (xs : List α) : flat (fun x => [f x]) xs = xs.map f := by
  induction xs with
  | nil => rfl
  | cons x r ih => rw [flat_cons, ih]; rfl
theorem SatL.old_rd {H H0 : Heap} {L : List Assn} (h : SatL H L) (i : Nat) (hA : nth i L = old H0) {a : Option Addr} {cs : List Value} (hr : rdS H0 a cs) : rdS H a cs := fun j v hj => ⟨(hr j v hj).1, h.cell0 i hA (hr j v hj).2⟩
theorem SatL.old_grow {H H0 : Heap} {L : List Assn} (h : SatL H L) (i : Nat) (hA : nth i L = old H0) : Grow H0 H := fun b hb => h.was i hA hb
end Go.Nm
namespace Go.Proofs.Ytfgabhogcbmhoaa
open Go Go.Nm Go.Proofs

structure CallD where
  what : Int
  first : Int
  ia : Option Addr
  ic : Nat
  items : List Int
def encC (c : CallD) : List Value := [I64 c.what, I64 c.first, .slice c.ia c.items.length c.ic]
theorem encC_len (c : CallD) : (encC c).length = 3 := rfl
def CallOk (H : Heap) (c : CallD) : Prop := rdS H c.ia (c.items.map I64)

theorem reads_calls {H : Type} {enc : TypeId × Value → H} {W : World} {cs : List Value} (h : Reads enc Try.prog W 22 cs) :
    ∃ a c calls, cs = [.slice a (List.length calls) c] ∧ calls.length ≤ maxLen ∧ rdS W.heap a (flat encC calls) ∧ ∀ x ∈ calls, CallOk W.heap x := by
  refine reads_rows (sz := 3) Try.underlying22 (by kernel_rfl) (by decide) h (fun vs hv hl => ?_) encC_len
  obtain ⟨_, hf⟩ := reads_struct Try.underlying34 hv
  have c2 : Try.prog.cellsOf 2 = 1 := by kernel_rfl
  have c3 : Try.prog.cellsOf 3 = 1 := by kernel_rfl
  have c32 : Try.prog.cellsOf 32 = 1 := by kernel_rfl
  simp only [List.mem_cons, List.not_mem_nil, or_false, forall_eq_or_imp, forall_eq, c2, c3, c32] at hf
  obtain ⟨f1, f2, f3⟩ := hf
  match vs, hl with
  | [x, y, z], _ =>
    simp only [List.drop_zero, List.take_succ_cons, List.take_zero, List.drop_succ_cons] at f1 f2 f3
    obtain ⟨n1, e1, _, _⟩ := reads_int Try.underlying3 f1
    obtain ⟨n2, e2, _, _⟩ := reads_int Try.underlying2 f2
    obtain ⟨ia, ic, items, e3, _, hr, _⟩ := reads_rows (ec := fun x : Int => [I64 x]) (Q := fun _ => True) Try.underlying32 c2 (by decide) f3 (fun us hu _ => by
      obtain ⟨n, e, _⟩ := reads_int Try.underlying2 hu
      exact ⟨n, e, trivial⟩) (fun _ => rfl)
    rw [flat_ones] at hr
    simp only [List.cons.injEq, and_true] at e1 e2 e3
    subst e1; subst e2; subst e3
    exact ⟨⟨n1, n2, ia, ic, items⟩, rfl, hr⟩

def greatB (calls : List CallD) : Bool := decide (60 < calls.length) || calls.any fun x => decide (100 < x.items.length)
theorem great_C {H : Heap} {ca : Option Addr} {cc : Nat} {calls : List CallD} (hc : rdS H ca (flat encC calls)) : CallQ Try.prog 8 #[.slice ca calls.length cc] H (.bool (greatB calls)) :=
  great_spec (fun x => (x.ia, x.items.length, x.ic)) encC_len (fun _ => rfl) hc

theorem HS.offer_len {s : HS} {first : Int} {items : List Int} (ok : s.Ok) : (s.offer first items).2.1.length ≤ 256 := by
  unfold HS.offer
  split
  · simp
  · have h1 := offerL_ok (vs := items) (n := first) (s := (s.rows, 0)) (ok.rows.weaken (lo' := s.next) (by omega) (Int.le_refl _))
    obtain ⟨a1, a2, ⟨k, a3, a4, a5⟩, a6⟩ := pop_spec h1.rising fun p hp => (h1.inb p hp).1
    have hlen := h1.length
    have := ok.most2
    have := ok.most1
    simp only
    omega
theorem Ok.wf {s : HS} (ok : s.Ok) (hn : s.next ≤ 1125899906842624) : ∀ p ∈ s.rows, wf64 p.1 := fun p hp => by
  have := ok.rows.inb p hp
  have := ok.next0
  have := ok.most2
  unfold wf64; omega
theorem Ok.len {s : HS} (ok : s.Ok) : s.rows.length ≤ 256 := by
  have := ok.rows.length
  have := ok.most1
  have := ok.most2
  omega

section
variable {H0 : Heap} {next most : Int} {ca : Option Addr} {cc : Nat} {calls : List CallD}

set_option maxHeartbeats 1000000 in
theorem HoldCalls_true (hc : rdS H0 ca (flat encC calls)) (hq : ∀ x ∈ calls, CallOk H0 x) :
    CallF Try.prog 3 #[I64 next, I64 most, .slice ca calls.length cc] H0 fun v H' => v = .bool true ∧ Grow H0 H' := by
  refine HoldCalls.call ?_
  unfold HoldCalls.code
  have h0 : SatL H0 [old H0] := by
    show Sat H0 (old H0 * emp)
    rw [sep_emp]; exact sat_start H0
  refine alive_spec h0 fun H1 h1 => ⟨_, rfl, fun hb => by simp at hb, fun _ => ?_⟩
  refine ⟨_, great_C (h1.old_rd 0 rfl hc), fun hg => ⟨rfl, h1.old_grow 0 rfl⟩, fun hg => ?_⟩
  refine New_spec h1 (fun hbad => ⟨none, _, rfl, ?_⟩) fun hb mb H2 ok hn2 h2 => ⟨_, _, rfl, ?_⟩
  · refine RNew_spec h1 (fun hbad => ⟨none, _, rfl, fun hb => by simp at hb, fun _ => ⟨fun _ => ⟨rfl, h1.old_grow 0 rfl⟩, fun hb => by simp at hb⟩⟩) fun hb H' hok _ => absurd hbad hok
  · have hok := ok.next0
    have hok1 := ok.most1
    have hok2 := ok.most2
    simp only at hok hok1 hok2
    refine RNew_spec h2 (fun hbad => absurd hbad (by omega)) fun rb H3 _ h3 => ⟨_, _, rfl, fun hb => by simp at hb, fun _ => ⟨fun hb => by simp at hb, fun _ => ?_⟩⟩
    have hg60 : calls.length ≤ 60 := by
      simp only [greatB, Bool.or_eq_false_iff, decide_eq_false_iff_not] at hg; omega
    have hg100 : ∀ x ∈ calls, x.items.length ≤ 100 := by
      intro x hx
      simp only [greatB, Bool.or_eq_false_iff, List.any_eq_false, decide_eq_true_eq] at hg
      have := hg.2 x hx; omega
    refine ⟨fun i H' => ∃ (k : Nat) (s : HS) (ra : Option Addr) (rn rc : Nat), i = k ∧ k ≤ calls.length ∧ s.Ok ∧ s.most = most ∧ s.next ≤ 1099511627776 + 256 * k ∧ SatL H' (old H0 :: holdC hb mb s.next most :: mapI mb s.rows :: refC rb s.next most ra rn rc :: rowsA ra rn rc s.rows :: []),
      fun i _ => calls.length - i.toNat, ⟨0, ⟨next, most, []⟩, none, 0, 0, rfl, Nat.zero_le _, ok, rfl, by simp only; omega, h3.ordt [4, 2, 3, 0, 1] 5 (by decide) (by decide)⟩, ?_⟩
    rintro i H4 ⟨k, s, ra, rn, rc, rfl, hk, sok, rfl, hnx, h4⟩
    unfold HoldCalls.l5
    refine ⟨fun hc1 => ?_, fun _ => ⟨rfl, h4.old_grow 0 rfl⟩⟩
    have hlt : k < calls.length := by simpa using hc1
    have hcr := h4.old_rd 0 rfl hc
    have hsome := hcr.some encC_len (by omega) hlt
    have hi := hg100 _ (List.getElem_mem hlt)
    have hio := hq _ (List.getElem_mem hlt)
    have e3 : IntKind.i64.wrap ((k : Int) + 1) = ((k + 1 : Nat) : Int) := w64 (by omega) (by omega)
    refine ⟨⟨by omega, by omega⟩, _, _, hsome, _, hcr.el0 encC_len hlt rfl, ?_⟩
    intro Jn hJ
    -- behind the call: both say the same
    have fin : ∀ (s' : HS) ra rn rc H', s'.Ok → s'.most = s.most → s'.next ≤ 1099511627776 + 256 * (k + 1 : Nat) → SatL H' (old H0 :: holdC hb mb s'.next s.most :: mapI mb s'.rows :: refC rb s'.next s.most ra rn rc :: rowsA ra rn rc s'.rows :: []) → Jn H' := by
      intro s' ra rn rc H5 ok' hm' hn' h5
      refine hJ _ ?_
      unfold HoldCalls.r2
      intro Jn1 hJ1
      refine ⟨_, Next_spec h5 1 rfl, ?_⟩
      simp only [NN, adrB, adrO]
      refine ⟨_, h5.rd 3 rfl _, fun _ => ?_, fun hb => absurd (by simp) hb⟩
      have hb' : s'.next ≤ 1125899906842624 := by omega
      refine Waiting_spec (h5.ordt [1, 2, 0, 3, 4] 5 (by decide) (by decide)) ok'.rows.rising (Ok.wf ok' hb') (by have := Ok.len ok'; omega) fun a c H6 h6 _ => ⟨_, _, _, rfl, ?_⟩
      refine RWaiting_spec (h6.ordt [4, 5, 0, 1, 2, 3] 6 (by decide) (by decide)) (by have := Ok.len ok'; omega) fun a2 c2 H7 h7 => ⟨_, _, _, rfl, ?_⟩
      have hkl : (keysOf s'.rows).length = s'.rows.length := by simp [keysOf]
      have hS := SameLongs_spec (c := c) (d := c2) (h7.sl_rd 3 rfl) (h7.sl_rd 0 rfl) (by have := Ok.len ok'; omega)
      rw [hkl, decide_t rfl] at hS
      refine ⟨_, hS, hJ1 _ _ ?_⟩
      unfold HoldCalls.r1
      refine ⟨fun hb => by simp at hb, fun _ => ?_⟩
      rw [e3]
      exact ⟨⟨k + 1, s', ra, rn, rc, rfl, hlt, ok', hm', hn', h7.ordt [6, 4, 5, 1, 2] 7 (by decide) (by decide)⟩, by simp only [Int.toNat_natCast]; omega⟩
    have hb50 : s.next ≤ 1125899906842624 := by omega
    refine ⟨fun _ => ?_, fun _ => ?_⟩
    · refine ⟨⟨by omega, by omega⟩, _, _, hsome, _, _, _, hcr.el encC_len hlt 2 rfl, ?_⟩
      refine CopyLongs_spec h4 (h4.old_rd 0 rfl hio) (by omega) fun a5 c5 H5 h5 => ⟨_, _, _, rfl, ⟨by omega, by omega⟩, _, _, hsome, _, (SatL.old_rd h5 1 rfl hc).el encC_len hlt 1 rfl, ?_⟩
      have ho := HS.offer_ok sok calls[k].first calls[k].items
      have hrl := HS.offer_len (first := calls[k].first) (items := calls[k].items) sok
      obtain ⟨o1, o2, o3, o4⟩ := ho
      refine Offer_spec (s := s) (h5.ordt [2, 3, 0, 1, 4, 5] 6 (by decide) (by decide)) sok hb50 (fun H h => h.sl_rd 0 rfl) (by omega) fun a6 c6 H6 h6 => ⟨_, _, _, _, rfl, ⟨by omega, by omega⟩, _, _, hsome, _, (SatL.old_rd h6 4 rfl hc).el encC_len hlt 1 rfl, ⟨by omega, by omega⟩, _, _, hsome, _, _, _, (SatL.old_rd h6 4 rfl hc).el encC_len hlt 2 rfl, ?_⟩
      refine ROffer_spec (s := s) (h6.ordt [5, 6, 0, 1, 2, 3, 4] 7 (by decide) (by decide)) sok hb50 (fun H h => SatL.old_rd h 4 rfl hio) (by omega) fun a7 c7 H7 ra7 rn7 rc7 h7 => ⟨_, _, _, _, rfl, ?_⟩
      have h8 := h7.ordt [0, 3, 6, 7, 4, 5, 1, 2] 8 (by decide) (by decide)
      refine ⟨fun j H' => ∃ (m : Nat) (own : List Int), j = m ∧ m ≤ calls[k].items.length ∧ own.length = calls[k].items.length ∧ SatL H' [slA 2 1 a7 (s.offer calls[k].first calls[k].items).2.1.length c7 ((s.offer calls[k].first calls[k].items).2.1.map I64), slA 2 1 a6 (s.offer calls[k].first calls[k].items).2.1.length c6 ((s.offer calls[k].first calls[k].items).2.1.map I64), slA 2 1 a5 calls[k].items.length c5 (own.map I64), old H0,
        holdC hb mb (s.offer calls[k].first calls[k].items).1.next s.most, mapI mb (s.offer calls[k].first calls[k].items).1.rows, refC rb (s.offer calls[k].first calls[k].items).1.next s.most ra7 rn7 rc7, rowsA ra7 rn7 rc7 (s.offer calls[k].first calls[k].items).1.rows],
        fun j _ => calls[k].items.length - j.toNat, ⟨0, calls[k].items, rfl, Nat.zero_le _, rfl, h8⟩, ?_⟩
      rintro j H8 ⟨m, own, rfl, hm, hol, h9⟩
      unfold HoldCalls.l3
      refine ⟨fun hc5 => ?_, fun hc5 => ?_⟩
      · have hlm : m < calls[k].items.length := by simpa using hc5
        have e4 : IntKind.i64.wrap ((m : Int) + 1) = ((m + 1 : Nat) : Int) := w64 (by omega) (by omega)
        have hown := (h9.sl_rd 2 rfl).at (j := m) (by omega)
        obtain ⟨_, c1, h10⟩ := h9.sl_set 2 rfl m [I64 (IntKind.i64.wrap (own[m] + 1))] (by simp; omega) (by simp)
        refine ⟨⟨by omega, by omega⟩, _, _, hown.1, _, hown.2, ⟨by omega, by omega⟩, _, _, hown.1, c1, ?_⟩
        rw [e4]
        refine ⟨⟨m + 1, own.set m (IntKind.i64.wrap (own[m] + 1)), rfl, hlm, by simpa using hol, ?_⟩, by simp only [Int.toNat_natCast]; omega⟩
        have : setsL (own.map I64) m [I64 (IntKind.i64.wrap (own[m] + 1))] = (own.set m (IntKind.i64.wrap (own[m] + 1))).map I64 := by
          simp only [setsL, List.map_set]
        rw [← this]; exact h10
      · have hS := SameLongs_spec (c := c6) (d := c7) (h9.sl_rd 1 rfl) (h9.sl_rd 0 rfl) (by omega)
        rw [decide_t rfl] at hS
        refine ⟨_, fun _ => hS, fun hb => by simp at hb, fun _ => ?_⟩
        exact fin (s.offer calls[k].first calls[k].items).1 _ _ _ _ o1 o4 (by omega) (h9.ordt [3, 4, 5, 6, 7] 8 (by decide) (by decide))
    · intro Jn2 hJ2
      have hJ3 : ∀ H', Jn H' → Jn2 H' := fun H' hh => hJ2 _ (by unfold HoldCalls.r4; exact hh)
      refine ⟨fun _ => ?_, fun _ => hJ3 _ (fin s _ _ _ _ sok rfl (by omega) h4)⟩
      refine Drain_spec (h4.ordt [1, 2, 0, 3, 4] 5 (by decide) (by decide)) sok.rows.rising (Ok.wf sok hb50) (by have := Ok.len sok; omega) fun a c H6 h6 => ⟨_, _, _, rfl, ?_⟩
      refine RDrain_spec (h6.ordt [4, 5, 0, 1, 2, 3] 6 (by decide) (by decide)) (by have := Ok.len sok; omega) fun a2 c2 H7 h7 => ⟨_, _, _, rfl, ?_⟩
      have hrd1 : rdS H7 a ((s.rows.map Prod.snd).map I64) := by rw [List.map_map]; exact h7.sl_rd 3 rfl
      have hrd2 : rdS H7 a2 ((s.rows.map Prod.snd).map I64) := by rw [List.map_map]; exact h7.sl_rd 0 rfl
      have hS := SameLongs_spec (c := c) (d := c2) hrd1 hrd2 (by have := Ok.len sok; simp; omega)
      rw [decide_t rfl, List.length_map] at hS
      refine ⟨_, hS, fun hb => by simp at hb, fun _ => hJ3 _ ?_⟩
      exact fin ⟨s.next, s.most, []⟩ _ _ _ _ ⟨sok.next0, sok.most1, sok.most2, ⟨by simp [Rising], by simp⟩⟩ rfl (by simp only; omega) (h7.ordt [6, 4, 5, 1, 2] 7 (by decide) (by decide))
end
end Go.Proofs.Ytfgabhogcbmhoaa
