/-
  told, walked (2).
-/
import Derived.Test.YtfkapbggncejcaaW10
set_option linter.unusedVariables false
set_option linter.unusedSimpArgs false
namespace Go.Proofs.Ytfkapbggncejcaa
open Go Go.Nm Go.Proofs

section
variable {rb wb mb : Nat} {most next : Int} {m : PM} {Q : Assn} {F L : List Assn} {H : Heap} {K : Value → Heap → Prop} {n : Int}

theorem ownB_nil (h : SatL H L) : SatL H (ownB [] :: L) := by
  have : SatL H (emp :: L) := by
    unfold SatL star
    rw [emp_sep]; exact h
  exact this
theorem told_spec {x : CD} (ok : WOk Q most next m) (hn : next ≤ 1000000000000000) (hxl : KIn Q x.la (flat encP x.list)) (hxp : ∀ p ∈ x.list, KIn Q p.a (p.bytes.map U8)) (h20 : x.list.length ≤ 20) (h100 : ∀ p ∈ x.list, p.bytes.length ≤ 100)
    (h : SatL H (wireC wb mb most next :: mapW mb m :: refW rb most :: Q :: F))
    (k : ∀ r next' m' Q' H', next' ≤ next + 20 → WOk Q' most next' m' → Sub Q Q' → SatL H' (wireC wb mb most next' :: mapW mb m' :: Q' :: F) → K (.bool r) H') :
    CallF Try.prog 14 #[.pointer (some ⟨wb, 0, none⟩), .pointer (some ⟨rb, 0, none⟩), .agg #[I64 x.what, I64 x.n, .slice x.la x.list.length x.lc]] H K := by
  have hn0 := ok.next0
  refine told.call ?_
  unfold told.code
  refine h.al fun b _ h => ⟨_, h.rd 0 rfl _, fun _ => ?_, fun _ => ⟨fun _ => ?_, fun _ => ⟨fun _ => ?_, fun _ => ?_⟩⟩⟩
  · refine h.al fun b1 _ h => ?_
    have h : SatL _ (slA 37 4 (some ⟨b1, 0, none⟩) 0 0 (flat encP []) :: _) := SatL.sl_pt (cs := []) h 4 0 rfl
    have h := ownB_nil h
    have h := h.ordt [1, 0] 2 (by decide) (by decide)
    refine ⟨fun oa on oc i H' => ∃ (j : Nat) (own : List Pk), i = j ∧ j ≤ x.list.length ∧ on = own.length ∧ own.length = j ∧ (∀ p ∈ own, p.bytes.length ≤ 100) ∧
        SatL H' (slA 37 4 oa own.length oc (flat encP own) :: ownB own :: cellsA b (encC x) 32 :: wireC wb mb most next :: mapW mb m :: refW rb most :: Q :: F), fun _ _ _ i _ => x.list.length - i.toNat,
      ⟨0, [], rfl, Nat.zero_le _, rfl, rfl, fun p hp => (by cases hp), h⟩, ?_⟩
    rintro oa on oc i H2 ⟨j, own, rfl, hj, rfl, hol, hob, h⟩
    unfold told.l3
    refine ⟨_, _, _, h.rd 2 rfl _, fun hc => ?_, fun hc => ?_⟩
    · have hlt : j < x.list.length := by have := of_decide_eq_true hc; omega
      have hr := hxl.at h 6 rfl
      have hp := List.getElem_mem hlt
      refine ⟨_, _, _, h.rd 2 rfl _, ⟨by omega, by omega⟩, _, _, hr.some encP_len (by omega) hlt, _, _, _, _, _, _, hr.els encP_len hlt, ?_⟩
      refine h.al fun b3 _ h => h.st 0 rfl rfl fun _ h => ⟨_, _, _, h.rd 0 rfl _, ?_⟩
      refine CopyBytes_own (bs := x.list[j].bytes) h (fun H h => (hxp _ hp).at h 7 rfl) (by have := h100 _ hp; omega) fun a' c' H5 h => ⟨_, _, _, rfl, ?_⟩
      refine h.st 1 rfl rfl fun _ h => ⟨_, _, _, _, _, _, h.rds 1 rfl rfl, ?_⟩
      refine h.al fun b4 _ h => ?_
      refine SatL.append (m := 1) (ws := encP ⟨x.list[j].up, x.list[j].agent, x.list[j].sent, a', c', x.list[j].bytes⟩) sl30 h 3 rfl (h.ce_rd 0 rfl) rfl rfl (by omega) (by omega) fun a2 c2 H8 h => ⟨_, _, _, rfl, ?_⟩
      rw [w64 (x := (j : Int) + 1) (by omega) (by omega)]
      have h4 : SatL H8 (slP ⟨x.list[j].up, x.list[j].agent, x.list[j].sent, a', c', x.list[j].bytes⟩ :: ownB own :: slA 37 4 a2 (own.length + 1) c2 (flat encP own ++ encP ⟨x.list[j].up, x.list[j].agent, x.list[j].sent, a', c', x.list[j].bytes⟩) :: cellsA b (encC x) 32 :: wireC wb mb most next :: mapW mb m :: refW rb most :: Q :: F) :=
        h.ordt [1, 4, 3, 5, 6, 7, 8, 9] 10 (by decide) (by decide)
      have h5 := (ownB_snoc h4).ordt [1, 0] 2 (by decide) (by decide)
      refine ⟨⟨j + 1, own ++ [⟨x.list[j].up, x.list[j].agent, x.list[j].sent, a', c', x.list[j].bytes⟩], rfl, hlt, by simp, by simp [hol], fun p hp => ?_, ?_⟩, by simp only [Int.toNat_natCast]; omega⟩
      · rcases List.mem_append.1 hp with hp | hp
        · exact hob p hp
        · rw [List.mem_singleton] at hp; subst hp; exact h100 x.list[j] (List.getElem_mem hlt)
      · rw [flat_append, flat_one, List.length_append, List.length_singleton]
        exact h5
    have hjl : j = x.list.length := by have := of_decide_eq_false hc; omega
    refine Put_spec (list := own) (F := slA 37 4 oa own.length oc (flat encP own) :: ownB own :: cellsA b (encC x) 32 :: refW rb most :: F) ok (by omega) (by omega) (fun Q2 H hs2 h' => ⟨h'.sl_rd 1 rfl, fun p hp => ownB_rd (h'.ordt [2] 5 (by decide) (by decide)) p hp⟩) (fun p hp => by have := hob p hp; omega) (h.ordt [3, 4, 6, 0, 1, 2, 5] 7 (by decide) (by decide))
      (fun _ H9 h => ⟨_, _, rfl, ?_⟩) (fun _ H9 h => ⟨_, _, rfl, ?_⟩) fun _ _ Q2 m' H9 hs2 ok' _ h => ⟨_, _, rfl, ?_⟩
    · obtain ⟨next', m', Q2, ok', hs2, hnn, h⟩ : ∃ (next' : Int) (m' : PM) (Q2 : Assn), WOk Q2 most next' m' ∧ Sub Q Q2 ∧ next' ≤ next + 20 ∧ SatL H9 (wireC wb mb most next' :: mapW mb m' :: Q2 :: slA 37 4 oa own.length oc (flat encP own) :: ownB own :: cellsA b (encC x) 32 :: refW rb most :: F) := ⟨next, m, Q, ok, Sub.refl Q, by omega, h⟩
      have hb' : next' ≤ next + 20 := by omega
      refine ⟨_, _, _, h.rd 5 rfl _, ?_⟩
      refine of_spec (list := x.list) (F := wireC wb mb most next' :: mapW mb m' :: slA 37 4 oa own.length oc (flat encP own) :: ownB own :: cellsA b (encC x) 32 :: refW rb most :: F) (h.ordt [2, 0, 1, 3, 4, 5, 6] 7 (by decide) (by decide))
        (fun Q3 H hs3 h' => ⟨(hxl.sub (hs2.trans hs3)) H _ h', fun p hp => ((hxp p hp).sub (hs2.trans hs3)) H _ h'⟩) (fun p hp => by have := h100 p hp; omega) (by omega) fun Q3 a3 c3 out H10 hs3 hout hoin h => ⟨_, _, _, rfl, ?_⟩
      have hol2 : out.length = x.list.length := by have := congrArg List.length hout; simpa using this
      refine RPut_spec (list := out) (F := slA 42 4 a3 out.length c3 (flat encP out) :: wireC wb mb most next' :: mapW mb m' :: slA 37 4 oa own.length oc (flat encP own) :: ownB own :: cellsA b (encC x) 32 :: F) (by omega) (fun Q4 H hs4 h' => ⟨h'.sl_rd 1 rfl, fun p hp => ((hoin p hp).1.sub hs4) H _ h'⟩) (fun p hp => (hoin p hp).2)
        (h.ordt [7, 1, 0, 2, 3, 4, 5, 6] 8 (by decide) (by decide)) fun r2 r3 Q4 H11 hs4 h => ⟨_, _, rfl, ?_⟩
      exact told_tail rfl (by omega) (fun p hp => by have := hob p hp; omega) (h.ordt [4, 5, 2, 3, 0] 7 (by decide) (by decide)) fun r H' h => k r next' m' Q4 H' hb' (ok'.sub (hs3.trans hs4)) (hs2.trans (hs3.trans hs4)) h
    · obtain ⟨next', m', Q2, ok', hs2, hnn, h⟩ : ∃ (next' : Int) (m' : PM) (Q2 : Assn), WOk Q2 most next' m' ∧ Sub Q Q2 ∧ next' ≤ next + 20 ∧ SatL H9 (wireC wb mb most next' :: mapW mb m' :: Q2 :: slA 37 4 oa own.length oc (flat encP own) :: ownB own :: cellsA b (encC x) 32 :: refW rb most :: F) := ⟨next, m, Q, ok, Sub.refl Q, by omega, h⟩
      have hb' : next' ≤ next + 20 := by omega
      refine ⟨_, _, _, h.rd 5 rfl _, ?_⟩
      refine of_spec (list := x.list) (F := wireC wb mb most next' :: mapW mb m' :: slA 37 4 oa own.length oc (flat encP own) :: ownB own :: cellsA b (encC x) 32 :: refW rb most :: F) (h.ordt [2, 0, 1, 3, 4, 5, 6] 7 (by decide) (by decide))
        (fun Q3 H hs3 h' => ⟨(hxl.sub (hs2.trans hs3)) H _ h', fun p hp => ((hxp p hp).sub (hs2.trans hs3)) H _ h'⟩) (fun p hp => by have := h100 p hp; omega) (by omega) fun Q3 a3 c3 out H10 hs3 hout hoin h => ⟨_, _, _, rfl, ?_⟩
      have hol2 : out.length = x.list.length := by have := congrArg List.length hout; simpa using this
      refine RPut_spec (list := out) (F := slA 42 4 a3 out.length c3 (flat encP out) :: wireC wb mb most next' :: mapW mb m' :: slA 37 4 oa own.length oc (flat encP own) :: ownB own :: cellsA b (encC x) 32 :: F) (by omega) (fun Q4 H hs4 h' => ⟨h'.sl_rd 1 rfl, fun p hp => ((hoin p hp).1.sub hs4) H _ h'⟩) (fun p hp => (hoin p hp).2)
        (h.ordt [7, 1, 0, 2, 3, 4, 5, 6] 8 (by decide) (by decide)) fun r2 r3 Q4 H11 hs4 h => ⟨_, _, rfl, ?_⟩
      exact told_tail rfl (by omega) (fun p hp => by have := hob p hp; omega) (h.ordt [4, 5, 2, 3, 0] 7 (by decide) (by decide)) fun r H' h => k r next' m' Q4 H' hb' (ok'.sub (hs3.trans hs4)) (hs2.trans (hs3.trans hs4)) h
    · obtain ⟨next', hnx, hnn⟩ : ∃ next', next' = next + (own.length : Int) ∧ next' ≤ next + 20 := ⟨_, rfl, by omega⟩
      rw [← hnx] at ok' h
      have hb' : next' ≤ next + 20 := by omega
      refine ⟨_, _, _, h.rd 5 rfl _, ?_⟩
      refine of_spec (list := x.list) (F := wireC wb mb most next' :: mapW mb m' :: slA 37 4 oa own.length oc (flat encP own) :: ownB own :: cellsA b (encC x) 32 :: refW rb most :: F) (h.ordt [2, 0, 1, 3, 4, 5, 6] 7 (by decide) (by decide))
        (fun Q3 H hs3 h' => ⟨(hxl.sub (hs2.trans hs3)) H _ h', fun p hp => ((hxp p hp).sub (hs2.trans hs3)) H _ h'⟩) (fun p hp => by have := h100 p hp; omega) (by omega) fun Q3 a3 c3 out H10 hs3 hout hoin h => ⟨_, _, _, rfl, ?_⟩
      have hol2 : out.length = x.list.length := by have := congrArg List.length hout; simpa using this
      refine RPut_spec (list := out) (F := slA 42 4 a3 out.length c3 (flat encP out) :: wireC wb mb most next' :: mapW mb m' :: slA 37 4 oa own.length oc (flat encP own) :: ownB own :: cellsA b (encC x) 32 :: F) (by omega) (fun Q4 H hs4 h' => ⟨h'.sl_rd 1 rfl, fun p hp => ((hoin p hp).1.sub hs4) H _ h'⟩) (fun p hp => (hoin p hp).2)
        (h.ordt [7, 1, 0, 2, 3, 4, 5, 6] 8 (by decide) (by decide)) fun r2 r3 Q4 H11 hs4 h => ⟨_, _, rfl, ?_⟩
      exact told_tail rfl (by omega) (fun p hp => by have := hob p hp; omega) (h.ordt [4, 5, 2, 3, 0] 7 (by decide) (by decide)) fun r H' h => k r next' m' Q4 H' hb' (ok'.sub (hs3.trans hs4)) (hs2.trans (hs3.trans hs4)) h
  · refine ⟨_, h.rd 0 rfl _, Take_spec ok (h.ordt [1, 2, 0] 3 (by decide) (by decide)) (fun hno H15 h => ⟨_, _, _, _, _, _, _, rfl, ?_⟩) (fun p hp ok4 H15 h => ⟨_, _, _, _, _, _, _, rfl, ?_⟩)⟩
    · refine h.al fun b9 _ h => h.st 0 rfl rfl fun _ h => ⟨_, h.rd 3 rfl _, ?_⟩
      refine RTake_spec (h.ordt [4, 0, 1, 2, 3] 5 (by decide) (by decide)) fun H18 h => ⟨_, _, _, _, _, _, _, rfl, ?_⟩
      refine h.al fun b10 _ h => h.st 0 rfl rfl fun _ h => ?_
      intro Jn hJ
      refine ⟨_, _, _, _, _, _, fun _ => h.rds 2 rfl rfl, _, _, _, _, _, _, fun _ => h.rds 0 rfl rfl, fun _ => ?_, fun hf => absurd rfl hf⟩
      refine same_spec (p := Pk.z) (q := Pk.z) h (fun H _ => rdS_nil _ _) (fun H _ => rdS_nil _ _) (by decide) fun r H' _ h => ⟨_, rfl, hJ _ _ (k _ next m Q _ (by omega) ok (Sub.refl Q) (h.ordt [3, 4, 6] 7 (by decide) (by decide)))⟩
    · refine h.al fun b9 _ h => h.st 0 rfl rfl fun _ h => ⟨_, h.rd 3 rfl _, ?_⟩
      refine RTake_spec (h.ordt [4, 0, 1, 2, 3] 5 (by decide) (by decide)) fun H18 h => ⟨_, _, _, _, _, _, _, rfl, ?_⟩
      refine h.al fun b10 _ h => h.st 0 rfl rfl fun _ h => ?_
      intro Jn hJ
      exact ⟨_, _, _, _, _, _, fun _ => h.rds 2 rfl rfl, _, _, _, _, _, _, fun _ => h.rds 0 rfl rfl, fun hf => by simp at hf, fun _ => hJ _ _ (k _ next _ Q _ (by omega) ok4 (Sub.refl Q) (h.ordt [3, 4, 6] 7 (by decide) (by decide)))⟩
  · refine ⟨_, h.rd 0 rfl _, Double_spec (F := cellsA b (encC x) 32 :: refW rb most :: F) ok (by omega) (h.ordt [1, 2, 4, 0, 3] 5 (by decide) (by decide)) (fun hno H23 h => ⟨_, _, rfl, ?_⟩) (fun p hp _ H23 h => ⟨_, _, rfl, ?_⟩) (fun p hp _ H23 h => ⟨_, _, rfl, ?_⟩) fun p hp _ _ Q2 m' H23 hs2 ok' _ h => ⟨_, _, rfl, ?_⟩⟩
    · exact ⟨_, h.rd 3 rfl _, RDouble_spec (h.ordt [4, 0, 1, 2, 3] 5 (by decide) (by decide)) fun H24 h => ⟨_, _, rfl, k _ next m Q _ (by omega) ok (Sub.refl Q) (h.ordt [1, 2, 3] 5 (by decide) (by decide))⟩⟩
    · exact ⟨_, h.rd 3 rfl _, RDouble_spec (h.ordt [4, 0, 1, 2, 3] 5 (by decide) (by decide)) fun H24 h => ⟨_, _, rfl, k _ next m Q _ (by omega) ok (Sub.refl Q) (h.ordt [1, 2, 3] 5 (by decide) (by decide))⟩⟩
    · exact ⟨_, h.rd 3 rfl _, RDouble_spec (h.ordt [4, 0, 1, 2, 3] 5 (by decide) (by decide)) fun H24 h => ⟨_, _, rfl, k _ next m Q _ (by omega) ok (Sub.refl Q) (h.ordt [1, 2, 3] 5 (by decide) (by decide))⟩⟩
    · exact ⟨_, h.rd 3 rfl _, RDouble_spec (h.ordt [4, 0, 1, 2, 3] 5 (by decide) (by decide)) fun H24 h => ⟨_, _, rfl, k _ (next + 1) m' Q2 _ (by omega) ok' hs2 (h.ordt [1, 2, 3] 5 (by decide) (by decide))⟩⟩
  · exact k _ next m Q _ (by omega) ok (Sub.refl Q) (h.ordt [1, 2, 4] 5 (by decide) (by decide))
end
end Go.Proofs.Ytfkapbggncejcaa
