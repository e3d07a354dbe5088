/-
  WireOnce.
-/
import Derived.Test.YtfkapbggncejcaaW6
import Derived.Test.YtfkapbggncejcaaRW
set_option linter.unusedVariables false
set_option linter.unusedSimpArgs false
namespace Go.Nm
open Go
theorem flat_ones {α : Type} (f : α → Value) (xs : List α) : flat (fun x => [f x]) xs = xs.map f := by
  induction xs with
  | nil => rfl
  | cons x r ih => rw [flat_cons, ih]; rfl
end Go.Nm
namespace Go.Proofs.Ytfkapbggncejcaa
open Go Go.Nm Go.Proofs

theorem reads_packets {H : Type} {enc : TypeId × Value → H} {W : World} {cs : List Value} (h : Reads enc Try.prog W 30 cs) :
    ∃ a c ps, cs = [.slice a (List.length ps) c] ∧ ps.length ≤ maxLen ∧ rdS W.heap a (flat encP ps) ∧ ∀ p ∈ ps, rdS W.heap p.a (p.bytes.map U8) := by
  refine reads_rows (sz := 4) Try.underlying30 (by kernel_rfl) (by decide) h (fun vs hv hl => ?_) encP_len
  obtain ⟨_, hf⟩ := reads_struct Try.underlying37 hv
  have c2 : Try.prog.cellsOf 2 = 1 := by kernel_rfl
  have c4 : Try.prog.cellsOf 4 = 1 := by kernel_rfl
  have c35 : Try.prog.cellsOf 35 = 1 := by kernel_rfl
  simp only [List.mem_cons, List.not_mem_nil, or_false, forall_eq_or_imp, forall_eq, c2, c4, c35] at hf
  obtain ⟨f1, f2, f3, f4⟩ := hf
  match vs, hl with
  | [x, y, z, u], _ =>
    simp only [List.drop_zero, List.take_succ_cons, List.take_zero, List.drop_succ_cons] at f1 f2 f3 f4
    obtain ⟨b1, e1⟩ := reads_bool Try.underlying4 f1
    obtain ⟨n2, e2, _, _⟩ := reads_int Try.underlying2 f2
    obtain ⟨n3, e3, _, _⟩ := reads_int Try.underlying2 f3
    obtain ⟨ia, ic, items, e4, _, hr, _⟩ := reads_rows (ec := fun x : Int => [U8 x]) (Q := fun _ => True) Try.underlying35 (by kernel_rfl) (by decide) f4 (fun us hu _ => by
      obtain ⟨n, e, _⟩ := reads_int Try.underlying5 hu
      exact ⟨n, e, trivial⟩) (fun _ => rfl)
    rw [flat_ones] at hr
    simp only [List.cons.injEq, and_true] at e1 e2 e3 e4
    subst e1; subst e2; subst e3; subst e4
    exact ⟨⟨b1, n2, n3, ia, ic, items⟩, rfl, hr⟩
theorem reads_calls {H : Type} {enc : TypeId × Value → H} {W : World} {cs : List Value} (h : Reads enc Try.prog W 22 cs) :
    ∃ a c calls, cs = [.slice a (List.length calls) c] ∧ calls.length ≤ maxLen ∧ rdS W.heap a (flat encC calls) ∧ ∀ x ∈ calls, CallOk W.heap x := by
  refine reads_rows (sz := 3) Try.underlying22 (by kernel_rfl) (by decide) h (fun vs hv hl => ?_) encC_len
  obtain ⟨_, hf⟩ := reads_struct Try.underlying32 hv
  have c2 : Try.prog.cellsOf 2 = 1 := by kernel_rfl
  have c3 : Try.prog.cellsOf 3 = 1 := by kernel_rfl
  have c30 : Try.prog.cellsOf 30 = 1 := by kernel_rfl
  simp only [List.mem_cons, List.not_mem_nil, or_false, forall_eq_or_imp, forall_eq, c2, c3, c30] at hf
  obtain ⟨f1, f2, f3⟩ := hf
  match vs, hl with
  | [x, y, z], _ =>
    simp only [List.drop_zero, List.take_succ_cons, List.take_zero, List.drop_succ_cons] at f1 f2 f3
    obtain ⟨n1, e1, _, _⟩ := reads_int Try.underlying3 f1
    obtain ⟨n2, e2, _, _⟩ := reads_int Try.underlying2 f2
    obtain ⟨ia, ic, items, e3, _, hr, hq⟩ := reads_packets f3
    simp only [List.cons.injEq, and_true] at e1 e2 e3
    subst e1; subst e2; subst e3
    exact ⟨⟨n1, n2, ia, ic, items⟩, rfl, hr, hq⟩

section
variable {H0 : Heap} {ca : Option Addr} {cc : Nat} {calls : List CD} {most : Int}

theorem like_look {m w : PM} {n : Int} (h : Like m w) : (mlook n m = none → mlook n w = none) ∧ ∀ p, mlook n m = some p → ∃ q, mlook n w = some q ∧ q.core = p.core := by
  have := h.look n
  constructor
  · intro hm
    rw [hm] at this
    cases hw : mlook n w with
    | none => rfl
    | some q => rw [hw] at this; cases this
  · intro p hm
    rw [hm] at this
    cases hw : mlook n w with
    | none => rw [hw] at this; cases this
    | some q => rw [hw] at this; exact ⟨q, rfl, (Option.some.inj this).symm⟩

theorem WireOnce_true (hc : rdS H0 ca (flat encC calls)) (hq : ∀ x ∈ calls, CallOk H0 x) :
    CallF Try.prog 3 #[I64 most, .slice ca calls.length cc] H0 fun v H' => v = .bool true ∧ Grow H0 H' := by
  refine WireOnce.call ?_
  unfold WireOnce.code
  refine alive_spec (sat0 H0) fun Q1 H1 hs1 h => ⟨_, rfl, fun hc => by simp at hc, fun _ => ?_⟩
  have gr : ∀ {Q H F}, Sub (old H0) Q → SatL H (Q :: F) → Grow H0 H := fun hs h => ((KG.old H0).sub hs) _ _ h
  refine ⟨_, great_spec (((KIn.old hc).sub hs1) _ _ h) (fun x hx => ⟨((KIn.old (hq x hx).1).sub hs1) _ _ h, fun p hp => ((KIn.old ((hq x hx).2 p hp)).sub hs1) _ _ h⟩), fun _ => ⟨rfl, gr hs1 h⟩, fun hg => ?_⟩
  obtain ⟨hlen, hbig⟩ := great_not hg
  refine New_spec h (fun hm => ⟨_, _, rfl, fun _ => ⟨rfl, gr hs1 h⟩, fun hc => by simp at hc⟩) fun hm hok wb mb H2 h => ⟨_, _, rfl, fun hc => by simp at hc, fun _ => ?_⟩
  refine h.alm I64 aggP fun b _ h => ?_
  refine ⟨fun i H' => ∃ (k : Nat) (next : Int) (m w : PM) (Q' : Assn), i = k ∧ k ≤ calls.length ∧ WOk Q' most next m ∧ next ≤ 20 * k ∧ Like m w ∧ (∀ p ∈ w, p.2.In Q') ∧ Sub (old H0) Q' ∧ SatL H' [wireC wb mb most next, mapW mb m, mapW b w, Q'], fun i _ => calls.length - i.toNat,
    ⟨0, 0, [], [], Q1, rfl, Nat.zero_le _, hok Q1, by simp, rfl, fun p hp => (by cases hp), hs1, h.ordt [1, 2, 0] 3 (by decide) (by decide)⟩, ?_⟩
  rintro i H4 ⟨k, next, m, w, Q', rfl, hk, ok, hnx, hlike, hins, hs, h⟩
  unfold WireOnce.l7
  refine ⟨fun hc1 => ?_, fun hc1 => ⟨rfl, gr hs (h.ordt [3] 4 (by decide) (by decide))⟩⟩
  have hlt : k < calls.length := by have := of_decide_eq_true hc1; omega
  have hcr := ((KIn.old hc).sub hs).at h 3 rfl
  have hx := hq _ (List.getElem_mem hlt)
  have hbx := hbig _ (List.getElem_mem hlt)
  have hb50 : next ≤ 1125899906842624 := by omega
  have hn0 := ok.next0
  have e3 : IntKind.i64.wrap ((k : Int) + 1) = ((k + 1 : Nat) : Int) := w64 (by omega) (by omega)
  refine ⟨⟨by omega, by omega⟩, _, _, hcr.some encC_len (by omega) hlt, _, _, _, _, _, hcr.els encC_len hlt, ?_⟩
  refine h.al fun b2 _ h => h.st 0 rfl rfl fun H5 h => ⟨_, h.rd 0 rfl _, ?_⟩
  intro Jn hJ
  have fin : ∀ (next' : Int) (m' w' : PM) (Q2 : Assn) H', WOk Q2 most next' m' → next' ≤ 20 * (k + 1 : Nat) → Like m' w' → (∀ p ∈ w', p.2.In Q2) → Sub (old H0) Q2 → SatL H' [wireC wb mb most next', mapW mb m', mapW b w', Q2] → Jn H' := by
    intro next' m' w' Q2 H' ok' hnx' hlike' hins' hs' h'
    refine hJ _ ?_
    unfold WireOnce.r1
    refine Flying_spec ok' (by omega) h' fun a c H7 h => ⟨_, _, _, rfl, _, h.mp_len mt29 3 rfl, _, fun _ => h.mp_len mt29 3 rfl, fun hf => ?_, fun _ => ?_⟩
    · have e1 := hlike'.len
      have e2 := ok'.len
      simp only [Bool.or_eq_true, Bool.not_eq_true', decide_eq_false_iff_not, decide_eq_true_eq] at hf
      omega
    · rw [e3]
      exact ⟨⟨k + 1, next', m', w', Q2, rfl, hlt, ok', hnx', hlike', hins', hs', h.tl⟩, by simp only [Int.toNat_natCast]; omega⟩
  have same' : ∀ H', SatL H' [cellsA b2 (encC calls[k]) 32, wireC wb mb most next, mapW mb m, mapW b w, Q'] → Jn H' := fun H' h' => fin next m w Q' H' ok (by omega) hlike hins hs h'.tl
  refine ⟨fun _ => ?_, fun hne => ?_⟩
  · refine ⟨_, _, _, h.rd 0 rfl _, ?_⟩
    refine Put_spec (list := calls[k].list) (F := [cellsA b2 (encC calls[k]) 32, mapW b w]) ok hb50 (by omega) (fun Q2 H hs2 h' => ⟨((KIn.old hx.1).sub (hs.trans hs2)) H _ h', fun p hp => ((KIn.old (hx.2 p hp)).sub (hs.trans hs2)) H _ h'⟩) (fun p hp => by have := hbx.2 p hp; omega) (h.ordt [1, 2, 4, 0, 3] 5 (by decide) (by decide))
      (fun _ H' h => ⟨_, _, rfl, ?_⟩) (fun _ H' h => ⟨_, _, rfl, ?_⟩) fun hgood hfit Q2 m' H' hs2 ok' hput h => ⟨_, _, rfl, ?_⟩
    · refine ⟨fun _ H' => SatL H' [wireC wb mb most next, mapW mb m, Q', cellsA b2 (encC calls[k]) 32, mapW b w], fun _ _ => 0, h, ?_⟩
      intro kk H9 h
      unfold WireOnce.l2
      exact ⟨none, 0, 0, fun hf => by simp at hf, fun hf => by simp at hf, fun _ => same' _ (h.ordt [3, 0, 1, 4, 2] 5 (by decide) (by decide))⟩
    · refine ⟨fun _ H' => SatL H' [wireC wb mb most next, mapW mb m, Q', cellsA b2 (encC calls[k]) 32, mapW b w], fun _ _ => 0, h, ?_⟩
      intro kk H9 h
      unfold WireOnce.l2
      exact ⟨none, 0, 0, fun hf => by simp at hf, fun hf => by simp at hf, fun _ => same' _ (h.ordt [3, 0, 1, 4, 2] 5 (by decide) (by decide))⟩
    · refine ⟨fun kk H' => ∃ (j : Nat) (w2 : PM), kk = j ∧ j ≤ calls[k].list.length ∧ putC (next + j) (calls[k].list.drop j) (cores w2) = putC next calls[k].list (cores m) ∧ (∀ p ∈ w2, p.2.In Q2) ∧
          SatL H' [wireC wb mb most (next + calls[k].list.length), mapW mb m', Q2, cellsA b2 (encC calls[k]) 32, mapW b w2], fun kk _ => calls[k].list.length - kk.toNat,
        ⟨0, w, rfl, Nat.zero_le _, by have : cores w = cores m := hlike.symm; simp [this], fun p hp => (hins p hp).sub hs2, h⟩, ?_⟩
      rintro kk H9 ⟨j, w2, rfl, hj, hput2, hin2, h⟩
      unfold WireOnce.l2
      refine ⟨_, _, _, fun _ => h.rd 3 rfl _, fun hc2 => ?_, fun hc2 => ?_⟩
      · have hjl : j < calls[k].list.length := by simp at hc2; omega
        have hr := ((KIn.old hx.1).sub (hs.trans hs2)).at h 2 rfl
        refine ⟨_, _, _, h.rd 3 rfl _, ⟨by omega, by omega⟩, _, _, hr.some encP_len (by omega) hjl, _, _, _, _, _, _, hr.els encP_len hjl, ?_⟩
        rw [w64 (x := next + (j : Int)) (by omega) (by omega), w64 (x := (j : Int) + 1) (by omega) (by omega)]
        refine h.mp_update (α := Pk) (v := calls[k].list[j]) mt29 ko2 4 rfl fun H10 h => ⟨⟨j + 1, mset (next + j) calls[k].list[j] w2, rfl, hjl, ?_, fun p hp => ?_, h⟩, by simp only [Int.toNat_natCast]; omega⟩
        · rw [← hput2, List.drop_eq_getElem_cons hjl]
          show _ = putC (next + j + 1) (calls[k].list.drop (j + 1)) (mset (next + j) calls[k].list[j].core (cores w2))
          have : cores (mset (next + (j : Int)) calls[k].list[j] w2) = mset (next + (j : Int)) calls[k].list[j].core (cores w2) := by
            unfold mset
            rw [← cores_del]; rfl
          rw [this]
          push_cast
          rw [Int.add_assoc]
        · rcases List.mem_cons.1 hp with rfl | hp
          · exact ⟨(KIn.old (hx.2 _ (List.getElem_mem hjl))).sub (hs.trans hs2), by have := hbx.2 _ (List.getElem_mem hjl); simp only; omega⟩
          · exact hin2 p (mem_mdel.1 hp).1
      · obtain rfl : j = calls[k].list.length := by simp at hc2; omega
        rw [List.drop_length] at hput2
        exact fin _ m' w2 Q2 _ ok' (by have := hbx.1; omega) (hput.trans hput2.symm) hin2 (hs.trans hs2) (h.ordt [0, 1, 4, 2] 5 (by decide) (by decide))
  intro Jn1 hJ1
  have hJ1' : ∀ H', Jn H' → Jn1 H' := fun H' hj => hJ1 H' hj
  refine ⟨fun _ => ?_, fun hne1 => ?_⟩
  · refine ⟨_, h.rd 0 rfl _, Take_spec ok (h.ordt [1, 2, 0] 3 (by decide) (by decide)) (fun hn H12 h => ⟨_, _, _, _, _, _, _, rfl, ?_⟩) (fun p hp ok4 H12 h => ⟨_, _, _, _, _, _, _, rfl, ?_⟩)⟩
    · have hwn := (like_look hlike).1 hn
      refine h.al fun b4 _ h => h.st 0 rfl rfl fun _ h => ⟨_, h.rd 3 rfl _, ?_⟩
      have hl := h.mp_get mt29 ko2 4 rfl (x := calls[k].n)
      rw [hwn] at hl
      refine ⟨_, _, _, _, _, _, _, hl, ?_⟩
      refine h.al fun b5 _ h => h.st 0 rfl rfl fun _ h => ?_
      intro Jn2 hJ2
      refine ⟨_, _, _, _, _, _, fun _ => h.rds 1 rfl rfl, _, _, _, _, _, _, fun _ => h.rds 0 rfl rfl, fun hf => by simp at hf, fun _ => ⟨fun hf => by simp at hf, fun hf => by simp at hf, hJ2 _ _ ?_⟩⟩
      unfold WireOnce.r4
      refine ⟨fun hf => by simp at hf, fun _ => ⟨_, h.rd 4 rfl _, h.mp_delete mt29 ko2 5 rfl (x := calls[k].n) fun _ h => hJ1' _ ?_⟩⟩
      have := hlike.del calls[k].n
      rw [mdel_of_none hn] at this
      exact fin next m _ Q' _ ok (by omega) this (fun q hq => hins q (mem_mdel.1 hq).1) hs (h.ordt [2, 3, 5, 6] 7 (by decide) (by decide))
    · obtain ⟨q, hwq, hqc⟩ := (like_look hlike).2 p hp
      have hpin := ok.ins _ (mlook_some_mem hp)
      have hqin := hins _ (mlook_some_mem hwq)
      refine h.al fun b4 _ h => h.st 0 rfl rfl fun _ h => ⟨_, h.rd 3 rfl _, ?_⟩
      have hl := h.mp_get mt29 ko2 4 rfl (x := calls[k].n)
      rw [hwq] at hl
      refine ⟨_, _, _, _, _, _, _, hl, ?_⟩
      refine h.al fun b5 _ h => h.st 0 rfl rfl fun _ h => ?_
      intro Jn2 hJ2
      refine ⟨_, _, _, _, _, _, fun _ => h.rds 1 rfl rfl, _, _, _, _, _, _, fun _ => h.rds 0 rfl rfl, fun _ => ?_, fun hf => absurd (by simp) hf⟩
      refine h.al fun b6 _ h => ⟨fun _ => h.rds 2 rfl rfl, ?_⟩
      refine of_spec (list := [q]) (lc := 1) (F := [cellsA b6 (encP q) 37, cellsA b5 (encP q) 37, cellsA b4 (encP p) 37, wireC wb mb most next, mapW mb (mdel calls[k].n m), cellsA b2 (encC calls[k]) 32, mapW b w]) (h.ordt [7, 0, 1, 2, 3, 4, 5, 6] 8 (by decide) (by decide))
        (fun Q2 H hs2 h' => ⟨h'.ce_rd 1 rfl, fun r hr => by rw [List.mem_singleton] at hr; subst hr; exact (hqin.1.sub hs2) H _ h'⟩) (fun r hr => by rw [List.mem_singleton] at hr; subst hr; exact hqin.2) (by simp) fun Q2 a c out H20 hs2 hout hoin h => ⟨_, _, _, rfl, ?_⟩
      have hl1 : out.length = 1 := by have := congrArg List.length hout; simpa using this
      obtain ⟨o, rfl⟩ := List.length_eq_one_iff.1 hl1
      have hoc : o.core = q.core := by simpa using hout
      have hro := (h.sl_rd 0 rfl).els encP_len (k := 0) (by simp)
      have hso := (h.sl_rd 0 rfl).some encP_len (k := 0) (by omega) (by simp)
      refine ⟨fun _ => h.rds 4 rfl rfl, ⟨by omega, by simp⟩, _, _, hso, _, _, _, _, _, _, hro, ?_⟩
      refine same_spec (p := p) (q := o) h (fun H h => (hpin.1.sub hs2).at h 1 rfl) (fun H h => (hoin o (by simp)).1.at h 1 rfl) hpin.2 fun r H21 hr h => ⟨_, rfl, hJ2 _ _ ?_⟩
      rw [hr (by rw [hoc, hqc])]
      unfold WireOnce.r4
      refine ⟨fun hf => by simp at hf, fun _ => ⟨_, h.rd 7 rfl _, h.mp_delete mt29 ko2 8 rfl (x := calls[k].n) fun _ h => hJ1' _ ?_⟩⟩
      exact fin next _ _ Q2 _ (ok4.sub hs2) (by omega) (hlike.del calls[k].n) (fun q hq => (hins q (mem_mdel.1 hq).1).sub hs2) (hs.trans hs2) (h.ordt [5, 6, 8, 1] 9 (by decide) (by decide))
  intro Jn3 hJ3
  have hJ3' : ∀ H', Jn H' → Jn3 H' := fun H' hj => hJ3 H' (hJ1' H' hj)
  refine ⟨fun _ => ?_, fun _ => hJ3' _ (same' _ h)⟩
  refine ⟨_, h.rd 0 rfl _, Double_spec (F := [cellsA b2 (encC calls[k]) 32, mapW b w]) ok hb50 (h.ordt [1, 2, 4, 0, 3] 5 (by decide) (by decide)) (fun hn H12 h => ⟨_, _, rfl, ?_⟩) (fun p hp _ H12 h => ⟨_, _, rfl, ?_⟩) (fun p hp _ H12 h => ⟨_, _, rfl, ?_⟩) fun p hp _ _ Q2 m' H12 hs2 ok' hput h => ⟨_, _, rfl, ?_⟩⟩
  · have hl := h.mp_get mt29 ko2 4 rfl (x := calls[k].n)
    rw [(like_look hlike).1 hn] at hl
    refine ⟨_, h.rd 3 rfl _, _, _, _, _, _, _, _, hl, ?_⟩
    refine h.al fun b8 _ h => h.st 0 rfl rfl fun _ h => ⟨fun hf => by simp at hf, fun _ => ?_⟩
    intro Jn4 hJ4
    exact ⟨fun hf => by simp at hf, fun _ => hJ4 _ (hJ3' _ (same' _ (h.ordt [4, 1, 2, 5, 3] 6 (by decide) (by decide))))⟩
  · obtain ⟨q, hwq, hqc⟩ := (like_look hlike).2 p hp
    have hl := h.mp_get mt29 ko2 4 rfl (x := calls[k].n)
    rw [hwq] at hl
    refine ⟨_, h.rd 3 rfl _, _, _, _, _, _, _, _, hl, ?_⟩
    refine h.al fun b8 _ h => h.st 0 rfl rfl fun _ h => ⟨fun hf => by simp at hf, fun _ => ?_⟩
    intro Jn4 hJ4
    exact ⟨fun hf => by simp at hf, fun _ => hJ4 _ (hJ3' _ (same' _ (h.ordt [4, 1, 2, 5, 3] 6 (by decide) (by decide))))⟩
  · obtain ⟨q, hwq, hqc⟩ := (like_look hlike).2 p hp
    have hl := h.mp_get mt29 ko2 4 rfl (x := calls[k].n)
    rw [hwq] at hl
    refine ⟨_, h.rd 3 rfl _, _, _, _, _, _, _, _, hl, ?_⟩
    refine h.al fun b8 _ h => h.st 0 rfl rfl fun _ h => ⟨fun hf => by simp at hf, fun _ => ?_⟩
    intro Jn4 hJ4
    exact ⟨fun hf => by simp at hf, fun _ => hJ4 _ (hJ3' _ (same' _ (h.ordt [4, 1, 2, 5, 3] 6 (by decide) (by decide))))⟩
  · obtain ⟨q, hwq, hqc⟩ := (like_look hlike).2 p hp
    have hqin := hins _ (mlook_some_mem hwq)
    have hl := h.mp_get mt29 ko2 4 rfl (x := calls[k].n)
    rw [hwq] at hl
    refine ⟨_, h.rd 3 rfl _, _, _, _, _, _, _, _, hl, ?_⟩
    refine h.al fun b8 _ h => h.st 0 rfl rfl fun _ h => ⟨fun hf => by simp at hf, fun _ => ?_⟩
    intro Jn4 hJ4
    refine ⟨fun _ => ⟨_, _, _, _, _, _, h.rds 0 rfl rfl, ?_⟩, fun hf => by simp at hf⟩
    refine h.mp_update (α := Pk) (v := q) mt29 ko2 5 rfl fun H27 h => hJ4 _ (hJ3' _ ?_)
    refine fin (next + 1) m' (mset next q w) Q2 _ ok' (by omega) ?_ (fun r hr => ?_) (hs.trans hs2) (h.ordt [1, 2, 5, 3] 6 (by decide) (by decide))
    · show cores m' = cores (mset next q w)
      have : cores (mset next q w) = mset next p.core (cores m) := by
        unfold mset
        have e : cores w = cores m := hlike.symm
        rw [← e, ← cores_del, ← hqc]; rfl
      rw [this]; exact hput
    · rcases List.mem_cons.1 hr with rfl | hr
      · exact hqin.sub hs2
      · exact (hins r (mem_mdel.1 hr).1).sub hs2
end
end Go.Proofs.Ytfkapbggncejcaa
