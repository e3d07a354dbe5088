/-
  WireDoubles.
-/
import Derived.Test.YtfkapbggncejcaaW12
set_option linter.unusedVariables false
set_option linter.unusedSimpArgs false
namespace Go.Proofs.Ytfkapbggncejcaa
open Go Go.Nm Go.Proofs

section
variable {H0 : Heap} {ca : Option Addr} {cc : Nat} {calls : List CD} {most n : Int}

theorem filter_len {m : PM} {up : Bool} {a : Int} {l : List Int} (h : l = sortI (keysOf (m.filter (pf up a)))) : l.length = (m.filter (pf up a)).length := by
  rw [h, sortI_length]; simp [keysOf]

theorem WireDoubles_true (hc : rdS H0 ca (flat encC calls)) (hq : ∀ x ∈ calls, CallOk H0 x) :
    CallF Try.prog 4 #[I64 most, .slice ca calls.length cc, I64 n] H0 fun v H' => v = .bool true ∧ Grow H0 H' := by
  refine WireDoubles.call ?_
  unfold WireDoubles.code
  refine alive_spec (sat0 H0) fun Q1 H1 hs1 h => ⟨_, rfl, fun hc => by simp at hc, fun _ => ?_⟩
  have gr : ∀ {Q H F}, Sub (old H0) Q → SatL H (Q :: F) → Grow H0 H := fun hs h => ((KG.old H0).sub hs) _ _ h
  refine ⟨_, great_spec (((KIn.old hc).sub hs1) _ _ h) (fun x hx => ⟨((KIn.old (hq x hx).1).sub hs1) _ _ h, fun p hp => ((KIn.old ((hq x hx).2 p hp)).sub hs1) _ _ h⟩), fun _ => ⟨rfl, gr hs1 h⟩, fun hg => ?_⟩
  obtain ⟨hlen, hbig⟩ := great_not hg
  refine New_spec h (fun hm => ⟨_, _, rfl, fun _ => ⟨rfl, gr hs1 h⟩, fun hc => by simp at hc⟩) fun hm hok wb mb H2 h => ⟨_, _, rfl, fun hc => by simp at hc, fun _ => ?_⟩
  refine ⟨fun i H' => ∃ (k : Nat) (next : Int) (m : PM) (Q' : Assn), i = k ∧ k ≤ calls.length ∧ WOk Q' most next m ∧ next ≤ 20 * k ∧ Sub (old H0) Q' ∧ SatL H' [wireC wb mb most next, mapW mb m, Q'], fun i _ => calls.length - i.toNat,
    ⟨0, 0, [], Q1, rfl, Nat.zero_le _, hok Q1, by simp, hs1, h⟩, ?_⟩
  rintro i H4 ⟨k, next, m, Q', rfl, hk, ok, hnx, hs, h⟩
  unfold WireDoubles.l3
  refine ⟨fun hc1 => ?_, fun hc1 => ?_⟩
  · have hlt : k < calls.length := by have := of_decide_eq_true hc1; omega
    have hx := hq _ (List.getElem_mem hlt)
    have hbx := hbig _ (List.getElem_mem hlt)
    have e3 : IntKind.i64.wrap ((k : Int) + 1) = ((k + 1 : Nat) : Int) := w64 (by omega) (by omega)
    refine h.al fun b _ h => ?_
    have hcr := ((KIn.old hc).sub hs).at h 3 rfl
    refine ⟨⟨by omega, by omega⟩, _, _, hcr.some encC_len (by omega) hlt, _, _, _, _, _, hcr.els encC_len hlt, ?_⟩
    refine told_spec (x := calls[k]) ok (by omega) ((KIn.old hx.1).sub hs) (fun p hp => (KIn.old (hx.2 p hp)).sub hs) hbx.1 hbx.2 (h.ordt [1, 2, 0] 3 (by decide) (by decide)) fun r next' m' Q2 H' hn' ok' hs2 h => ⟨_, rfl, ?_⟩
    rw [e3]
    exact ⟨⟨k + 1, next', m', Q2, rfl, hlt, ok', by push_cast; omega, hs.trans hs2, h⟩, by simp only [Int.toNat_natCast]; omega⟩
  have hn0 := ok.next0
  have hb50 : next ≤ 1125899906842624 := by omega
  have hsm := WOk.small ok
  refine ⟨fun all a H' => ∃ j : Nat, a = j ∧ j ≤ 64 ∧ all = (belowA m j : Int) ∧ SatL H' [wireC wb mb most next, mapW mb m, Q'], fun _ a _ => 64 - a.toNat, ⟨0, rfl, by omega, by rw [show ((0 : Nat) : Int) = 0 from rfl, belowA_zero ok]; rfl, h⟩, ?_⟩
  rintro all a H5 ⟨j, rfl, hj, rfl, h⟩
  have hbl : ∀ x : Int, belowA m x ≤ m.length := fun x => List.length_filter_le _ _
  unfold WireDoubles.l2
  refine ⟨fun hc2 => ?_, fun hc2 => ?_⟩
  · have hlt : j < 64 := by have := of_decide_eq_true hc2; omega
    refine For_spec (up := true) (agent := j) ok hb50 h fun a1 c1 l1 H6 hl1 h => ⟨_, _, _, rfl, ?_⟩
    refine For_spec (up := false) (agent := j) ok hb50 (h.ordt [1, 2, 3] 4 (by decide) (by decide)) fun a2 c2 l2 H7 hl2 h => ⟨_, _, _, rfl, ?_⟩
    have e1 := filter_len hl1
    have e2 := filter_len hl2
    have e4 := belowA_step (j : Int) m
    have e5 := hbl (j : Int)
    have e6 : l1.length ≤ m.length := by rw [e1]; exact List.length_filter_le _ _
    have e7 : l2.length ≤ m.length := by rw [e2]; exact List.length_filter_le _ _
    rw [w64 (x := (l1.length : Int) + l2.length) (by omega) (by omega), w64 (x := (belowA m j : Int) + ((l1.length : Int) + l2.length)) (by omega) (by omega), w64 (x := (j : Int) + 1) (by omega) (by omega)]
    refine ⟨⟨j + 1, rfl, hlt, ?_, h.ordt [1, 2, 3] 4 (by decide) (by decide)⟩, by simp only [Int.toNat_natCast]; omega⟩
    push_cast
    rw [e4]; omega
  obtain rfl : j = 64 := by have := of_decide_eq_false hc2; omega
  have hall : (belowA m ((64 : Nat) : Int) : Int) = m.length := by rw [show ((64 : Nat) : Int) = 64 from rfl, belowA_all ok]
  rw [hall]
  refine Flying_spec ok hb50 h fun a c H8 h => ⟨_, _, _, rfl, fun hf => by simp at hf, fun _ => ?_⟩
  refine Of_spec (n := n) ok (h.ordt [1, 2, 3, 0] 4 (by decide) (by decide)) fun Q2 p H9 hs2 hpi hpc h => ⟨_, _, _, _, _, _, _, rfl, ?_⟩
  refine h.al fun b2 _ h => h.st 0 rfl rfl fun _ h => ?_
  have ok2 := ok.sub hs2
  refine Double_spec (F := [cellsA b2 (encP p) 37, slA 2 1 a m.length c ((sortI (keysOf m)).map I64)]) ok2 hb50 (h.ordt [1, 2, 3, 0, 4] 5 (by decide) (by decide)) (fun hno H12 h => ⟨_, _, rfl, fun _ => ⟨?_, gr (hs.trans hs2) (h.ordt [2] 3 (by decide) (by decide))⟩, fun hf => by simp at hf⟩)
    (fun q hqq _ H12 h => ⟨_, _, rfl, fun _ => ⟨?_, gr (hs.trans hs2) (h.ordt [2] 3 (by decide) (by decide))⟩, fun hf => by simp at hf⟩) (fun q hqq _ H12 h => ⟨_, _, rfl, fun _ => ⟨?_, gr (hs.trans hs2) (h.ordt [2] 3 (by decide) (by decide))⟩, fun hf => by simp at hf⟩) fun q hqq _ _ Q3 m' H12 hs3 ok3 hput h => ⟨_, _, rfl, fun hf => by simp at hf, fun _ => ?_⟩
  · rw [hno]; rfl
  · rw [hqq]; rfl
  · rw [hqq]; rfl
  have hq1 : p.core = q.core := by rw [hpc, hqq]; rfl
  have hqin := ok2.ins _ (mlook_some_mem hqq)
  have hqm := ok2.keys _ (mlook_some_mem hqq)
  have hne : n ≠ next := by simp only at hqm; omega
  have hx : ∃ x, mlook n m' = some x ∧ x.core = q.core := by
    have := cores_look n m'
    rw [hput, mlook_mset, if_neg hne, cores_look, hqq] at this
    cases hm' : mlook n m' with
    | none => rw [hm'] at this; cases this
    | some x => rw [hm'] at this; exact ⟨x, rfl, (Option.some.inj this).symm⟩
  obtain ⟨x, hxl, hxc⟩ := hx
  refine Take_spec ok3 (n := n) h (fun hno H13 h => by rw [hno] at hxl; cases hxl) fun x' hx' ok4 H13 h => ⟨_, _, _, _, _, _, _, rfl, ?_⟩
  obtain rfl : x = x' := by rw [hxl] at hx'; exact Option.some.inj hx'
  have hxin := ok3.ins _ (mlook_some_mem hxl)
  refine h.al fun b3 _ h => h.st 0 rfl rfl fun _ h => ?_
  have hy : ∃ y, mlook next (mdel n m') = some y ∧ y.core = q.core := by
    have := cores_look next m'
    rw [hput, mlook_mset, if_pos rfl] at this
    rw [mlook_mdel_ne (fun e => hne e.symm)]
    cases hm' : mlook next m' with
    | none => rw [hm'] at this; cases this
    | some y => rw [hm'] at this; exact ⟨y, rfl, (Option.some.inj this).symm⟩
  obtain ⟨y, hyl, hyc⟩ := hy
  refine Take_spec ok4 (n := next) (h.ordt [1, 2, 3, 0, 4] 5 (by decide) (by decide)) (fun hno H13 h => by rw [hno] at hyl; cases hyl) fun y' hy' ok5 H16 h => ⟨_, _, _, _, _, _, _, rfl, ?_⟩
  obtain rfl : y = y' := by rw [hyl] at hy'; exact Option.some.inj hy'
  have hyin := ok4.ins _ (mlook_some_mem hyl)
  refine h.al fun b4 _ h => h.st 0 rfl rfl fun _ h => ?_
  intro Jn hJ
  refine ⟨_, fun _ => Next_spec h 1 rfl, ?_⟩
  rw [hqq, w64 (x := next + 1 - 1) (by omega) (by omega)]
  refine ⟨_, _, _, _, _, _, fun _ => h.rds 4 rfl rfl, _, _, _, _, _, _, fun _ => h.rds 5 rfl rfl, fun _ => ?_, fun hf => absurd (by simp) hf⟩
  refine h.al fun b5 _ h => ⟨fun _ => h.rds 5 rfl rfl, ?_⟩
  have hpl := hpi.2
  refine of_spec (list := [p]) (lc := 1) (F := [cellsA b5 (encP p) 37, cellsA b4 (encP y) 37, wireC wb mb most (next + 1), mapW mb (mdel next (mdel n m')), cellsA b3 (encP x) 37, cellsA b2 (encP p) 37]) (h.ordt [4, 0, 1, 2, 3, 5, 6] 8 (by decide) (by decide))
    (fun Q2 H hs2 h' => ⟨h'.ce_rd 1 rfl, fun r hr => by rw [List.mem_singleton] at hr; subst hr; exact ((hpi.1.sub hs3).sub hs2) H _ h'⟩) (fun r hr => by rw [List.mem_singleton] at hr; subst hr; exact hpl) (by simp) fun Q4 a c out H21 hs4 hout hoin h => ⟨_, _, _, rfl, ?_⟩
  have hl1 : out.length = 1 := by have := congrArg List.length hout; simpa using this
  obtain ⟨o, rfl⟩ := List.length_eq_one_iff.1 hl1
  have hoc : o.core = p.core := by simpa using hout
  have hro := (h.sl_rd 0 rfl).els encP_len (k := 0) (by simp)
  have hso := (h.sl_rd 0 rfl).some encP_len (k := 0) (by omega) (by simp)
  refine ⟨fun _ => h.rds 6 rfl rfl, ⟨by omega, by simp⟩, _, _, hso, _, _, _, _, _, _, hro, ?_⟩
  refine same_spec (p := x) (q := o) h (fun H h => (hxin.1.sub hs4).at h 1 rfl) (fun H h => (hoin o (by simp)).1.at h 1 rfl) hxin.2 fun r H22 hr h => ⟨_, rfl, ?_⟩
  rw [hr (by rw [hoc, hxc, hq1])]
  refine ⟨_, _, _, _, _, _, fun _ => h.rds 3 rfl rfl, _, _, _, _, _, _, fun _ => h.rds 7 rfl rfl, fun _ => ?_, fun hf => absurd rfl hf⟩
  refine h.al fun b7 _ h => ⟨fun _ => h.rds 4 rfl rfl, ?_⟩
  refine of_spec (list := [p]) (lc := 1) (F := [cellsA b7 (encP p) 37, cellsA b4 (encP y) 37, wireC wb mb most (next + 1), mapW mb (mdel next (mdel n m'))]) (h.ordt [2, 0, 4, 5, 6] 9 (by decide) (by decide))
    (fun Q2 H hs2 h' => ⟨h'.ce_rd 1 rfl, fun r hr => by rw [List.mem_singleton] at hr; subst hr; exact (((hpi.1.sub hs3).sub hs4).sub hs2) H _ h'⟩) (fun r hr => by rw [List.mem_singleton] at hr; subst hr; exact hpl) (by simp) fun Q5 a' c' out' H24 hs5 hout hoin h => ⟨_, _, _, rfl, ?_⟩
  have hl1 : out'.length = 1 := by have := congrArg List.length hout; simpa using this
  obtain ⟨o', rfl⟩ := List.length_eq_one_iff.1 hl1
  have hoc' : o'.core = p.core := by simpa using hout
  have hro := (h.sl_rd 0 rfl).els encP_len (k := 0) (by simp)
  have hso := (h.sl_rd 0 rfl).some encP_len (k := 0) (by omega) (by simp)
  refine ⟨fun _ => h.rds 3 rfl rfl, ⟨by omega, by simp⟩, _, _, hso, _, _, _, _, _, _, hro, ?_⟩
  have hyin' := (hyin.1.sub hs4).sub hs5
  refine same_spec (p := y) (q := o') h (fun H h => hyin'.at h 1 rfl) (fun H h => (hoin o' (by simp)).1.at h 1 rfl) hyin.2 fun r H25 hr h => ⟨_, rfl, ?_⟩
  rw [hr (by rw [hoc', hyc, hq1])]
  refine ⟨fun _ => ?_, fun hf => absurd rfl hf⟩
  have hlen : ((mdel next (mdel n m')).length : Int) = m.length - 1 := by
    have e1 := length_mdel ok3.nd hxl
    have e2 := length_mdel ok4.nd hyl
    have e3 : m'.length = m.length + 1 := by
      have := congrArg List.length hput
      rw [length_mset_new] at this
      · simpa [cores] using this
      · rw [cores_look, mlook_none.2]
        · rfl
        · intro hmem
          obtain ⟨z, hz, he⟩ := List.mem_map.1 hmem
          have := ok2.keys z hz
          omega
    omega
  refine Flying_spec ok5 (by omega) (h.ordt [4, 5, 1] 6 (by decide) (by decide)) fun a9 c9 H26 h => ⟨_, _, _, rfl, hJ _ _ ?_⟩
  unfold WireDoubles.r1
  refine ⟨?_, gr ((((hs.trans hs2).trans hs3).trans hs4).trans hs5) (h.ordt [3] 4 (by decide) (by decide))⟩
  rw [w64 (x := (m.length : Int) - 1) (by omega) (by omega), hlen]
  simp
end
end Go.Proofs.Ytfkapbggncejcaa
