/-
  alive.
-/
import Derived.Test.YtfkapbggncejcaaW5
set_option linter.unusedVariables false
set_option linter.unusedSimpArgs false
namespace Go.Proofs.Ytfkapbggncejcaa
open Go Go.Nm Go.Proofs

theorem keys_cores (m : PM) : keysOf m = (cores m).map Prod.fst := by simp [cores, keysOf, Function.comp_def]
theorem len_cores (m : PM) : m.length = (cores m).length := by simp [cores]
def pfc (up : Bool) (agent : Int) (p : Int × Core) : Bool := p.2.1 == up && decide (p.2.2.1 = agent)
theorem pf_cores (up : Bool) (agent : Int) (m : PM) : keysOf (m.filter (pf up agent)) = ((cores m).filter (pfc up agent)).map Prod.fst := by
  unfold cores keysOf
  rw [List.filter_map, List.map_map]
  rfl
abbrev c0 : Core := (true, 3, 5, [1])
abbrev c1 : Core := (false, 4, 0, [])
theorem sortI_two {l l' : List Int} (h : l.Perm l') (hs : l'.Pairwise (· ≤ ·)) : sortI l = l' := by rw [sortI_perm h, sortI_of_sorted hs]
theorem look_core {m : PM} {n : Int} {cm : List (Int × Core)} {c : Core} (h : cores m = cm) (hl : mlook n cm = some c) : ∃ p, mlook n m = some p ∧ p.core = c := by
  have := cores_look n m
  rw [h, hl] at this
  cases hm : mlook n m with
  | none => rw [hm] at this; cases this
  | some p => rw [hm] at this; exact ⟨p, rfl, (Option.some.inj this).symm⟩
theorem look_no {m : PM} {n : Int} {cm : List (Int × Core)} (h : cores m = cm) (hl : mlook n cm = none) : mlook n m = none := by
  have := cores_look n m
  rw [h, hl] at this
  cases hm : mlook n m with
  | none => rfl
  | some p => rw [hm] at this; cases this

theorem Flying_spec' {wb mb : Nat} {most next : Int} {m : PM} {Q : Assn} {F : List Assn} {H : Heap} {K : Value → Heap → Prop} {l : List Int} (e : sortI (keysOf m) = l) (ok : WOk Q most next m) (hn : next ≤ 1125899906842624) (h : SatL H (wireC wb mb most next :: mapW mb m :: F))
    (k : ∀ a c H', SatL H' (slA 2 1 a l.length c (l.map I64) :: wireC wb mb most next :: mapW mb m :: F) → K (.slice a l.length c) H') :
    CallF Try.prog 13 #[.pointer (some ⟨wb, 0, none⟩)] H K := by
  subst e
  have hl : m.length = (sortI (keysOf m)).length := by rw [sortI_length]; simp [keysOf]
  refine Flying_spec ok hn h ?_
  rw [hl]
  exact k

section
variable {Q : Assn} {F : List Assn} {H : Heap} {K : Value → Heap → Prop}

theorem alive_spec (h : SatL H (Q :: F)) (k : ∀ Q' H', Sub Q Q' → SatL H' (Q' :: F) → K (.bool true) H') : CallF Try.prog 5 #[] H K := by
  refine alive.call ?_
  unfold alive.code
  refine New_spec h (fun hc => by omega) fun _ hok wb mb H1 h => ⟨_, _, rfl, fun hc => by simp at hc, fun _ => ?_⟩
  refine h.al fun b _ h => ?_
  refine h.al fun b1 _ h => ?_
  refine Put_spec (list := [⟨true, 3, 5, some ⟨b, 0, none⟩, 1, [1]⟩, ⟨false, 4, 0, none, 0, []⟩]) (lc := 2) (hok Q) (by decide) (by simp) (F := cellsA b1 [.bool true, I64 3, I64 5, .slice (some ⟨b, 0, none⟩) 1 1, .bool false, I64 4, I64 0, .slice none 0 0] 37 :: cellsA b [.int .u8 1] 5 :: F)
    (fun Q' H hs h' => ⟨h'.ce_rd 1 rfl, fun q hq => ?_⟩) (fun q hq => ?_) (h.ordt [2, 3, 4, 0, 1] 5 (by decide) (by decide)) (fun hb => ?_) (fun hf => ?_) fun _ _ Q1 m1 H2 hs1 ok1 hput1 h => ⟨_, _, rfl, ?_⟩
  · rcases List.mem_cons.1 hq with rfl | hq
    · exact h'.ce_rd 2 rfl
    · rw [List.mem_singleton] at hq; subst hq; exact rdS_nil _ _
  · rcases List.mem_cons.1 hq with rfl | hq
    · simp
    · rw [List.mem_singleton] at hq; subst hq; simp
  · exfalso
    obtain ⟨q, hq, hb⟩ := hb
    rcases List.mem_cons.1 hq with rfl | hq
    · simp [badP] at hb
    · rw [List.mem_singleton] at hq; subst hq; simp [badP] at hb
  · exfalso; simp at hf
  have e2 : (0 : Int) + (([⟨true, 3, 5, some ⟨b, 0, none⟩, 1, [1]⟩, ⟨false, 4, 0, none, 0, []⟩] : List Pk).length : Int) = 2 := rfl
  rw [e2] at ok1 h
  have hm1 : cores m1 = [(1, c1), (0, c0)] := hput1
  have hl1 : m1.length = 2 := by rw [len_cores, hm1]; rfl
  obtain ⟨p0, hp0, hpc0⟩ := look_core (n := 0) hm1 rfl
  have hnb : ¬ badP p0 := by
    have e1 : p0.agent = 3 := congrArg (fun c : Core => c.2.1) hpc0
    have e2 : p0.sent = 5 := congrArg (fun c : Core => c.2.2.1) hpc0
    unfold badP; omega
  refine Double_spec ok1 (by decide) h (fun hn => by rw [hp0] at hn; cases hn) (fun p hp hb => by rw [hp0] at hp; cases hp; exact absurd hb hnb) (fun p hp hf => by omega) fun p hp _ _ Q2 m2 H3 hs2 ok2 hput2 h => ⟨_, _, rfl, ?_⟩
  rw [hp0] at hp; cases hp
  have hm2 : cores m2 = [(2, c0), (1, c1), (0, c0)] := by rw [hput2, hm1, hpc0]; decide
  have hl2 : m2.length = 3 := by rw [len_cores, hm2]; rfl
  have e3 : (2 : Int) + 1 = 3 := rfl
  rw [e3] at ok2 h
  obtain ⟨p2, hp2, hpc2⟩ := look_core (n := 0) hm2 rfl
  have hnb2 : ¬ badP p2 := by
    have e1 : p2.agent = 3 := congrArg (fun c : Core => c.2.1) hpc2
    have e2 : p2.sent = 5 := congrArg (fun c : Core => c.2.2.1) hpc2
    unfold badP; omega
  refine Double_spec ok2 (by decide) h (fun hn => by rw [hp2] at hn; cases hn) (fun p hp hb => by rw [hp2] at hp; cases hp; exact absurd hb hnb2) (fun p hp _ H4 h => ⟨_, _, rfl, ?_⟩) (fun p hp _ hf => by omega)
  refine Clone_spec ok2 (by decide) h fun Q3 cb cm mc H5 hs3 hpc okc h => ⟨_, rfl, ?_⟩
  have ok2' := ok2.sub hs3
  refine Take_spec (n := 0) ok2' (h.ordt [2, 3, 0, 1, 4] 5 (by decide) (by decide)) (fun hn => by rw [hp2] at hn; cases hn) fun p hp ok4 H6 h => ⟨_, _, _, _, _, _, _, rfl, ?_⟩
  rw [hp2] at hp; cases hp
  refine h.al fun b2 _ h => h.st 0 rfl rfl fun _ h => ?_
  have hm4 : cores (mdel 0 m2) = [(2, c0), (1, c1)] := by rw [cores_del, hm2]; decide
  refine Take_spec (n := 0) ok4 (h.ordt [1, 2, 0] 3 (by decide) (by decide)) (fun hn H7 h => ⟨_, _, _, _, _, _, _, rfl, ?_⟩) (fun p hp => by rw [look_no (n := 0) hm4 rfl] at hp; cases hp)
  refine h.al fun b3 _ h => h.st 0 rfl rfl fun _ h => ?_
  obtain ⟨p4, hp4, hpc4⟩ := look_core (n := 2) hm4 rfl
  refine Of_spec (n := 2) ok4 (h.ordt [1, 2, 6, 0, 3, 4, 5] 7 (by decide) (by decide)) fun Q4 q H8 hs4 hi4 hc4 h => ⟨_, _, _, _, _, _, _, rfl, ?_⟩
  rw [hp4] at hc4 ⊢
  have hqa : q.agent = 3 := by have := congrArg (fun c : Core => c.2.1) (hc4.trans hpc4); exact this
  refine h.al fun b4 _ h => h.st 0 rfl rfl fun _ h => ?_
  have hno : mlook 0 (mdel 0 m2) = none := look_no (n := 0) hm4 rfl
  refine Of_spec (n := 0) (ok4.sub hs4) (h.ordt [1, 2, 3, 0, 4, 5, 6, 7] 8 (by decide) (by decide)) fun Q5 q5 H9 hs5 hi5 hc5 h => ⟨_, _, _, _, _, _, _, rfl, ?_⟩
  rw [hno]
  refine h.al fun b5 _ h => h.st 0 rfl rfl fun _ h => ⟨fun hf => (by cases hf), fun _ => ?_⟩
  intro Jn hJ
  have hsent : p2.sent = 5 := congrArg (fun c : Core => c.2.2.1) hpc2
  have okw := (ok4.sub hs4).sub hs5
  refine ⟨_, fun _ => h.rd 6 rfl _, _, fun _ => h.rd 4 rfl _, fun _ => ?_, fun hn => ?_⟩
  · have hkA : sortI (keysOf (mdel 0 m2)) = [1, 2] := by rw [keys_cores, hm4]; exact sortI_two (by decide) (by decide)
    have hkB : sortI (keysOf mc) = [0, 1, 2] := by
      rw [keys_cores]
      refine sortI_two ((hpc.map Prod.fst).trans ?_) (by decide)
      rw [hm2]; decide
    have hkC : sortI (keysOf ((mdel 0 m2).filter (pf true 3))) = [2] := by rw [pf_cores, hm4]; exact sortI_two (by decide) (by decide)
    refine Flying_spec' hkA okw (by decide) (h.ordt [1, 2, 0, 3] 4 (by decide) (by decide)) fun a6 c6 H20 h => ⟨_, _, _, rfl, ?_⟩
    refine h.al fun b6 _ h => ⟨_, SameLongs_spec (xs := [1, 2]) (ys := [1, 2]) (h.sl_rd 1 rfl) (h.ce_rd 0 rfl) (by decide), fun _ => ?_, fun hn => absurd (by decide) hn⟩
    refine Flying_spec' hkB okc (by decide) (h.ordt [9, 10, 0, 1, 2, 3, 4, 5, 6, 7, 8, 11, 12] 13 (by decide) (by decide)) fun a7 c7 H21 h => ⟨_, _, _, rfl, ?_⟩
    refine h.al fun b7 _ h => ⟨_, SameLongs_spec (xs := [0, 1, 2]) (ys := [0, 1, 2]) (h.sl_rd 1 rfl) (h.ce_rd 0 rfl) (by decide), fun _ => ?_, fun hn => absurd (by decide) hn⟩
    refine For_spec (up := true) (agent := 3) okw (by decide) (h.ordt [6, 7, 0, 1, 2, 3, 4, 5] 8 (by decide) (by decide)) fun a8 c8 l H22 hl h => ⟨_, _, _, rfl, ?_⟩
    rw [hkC] at hl
    subst hl
    refine h.al fun b8 _ h => ⟨_, SameLongs_spec (xs := [2]) (ys := [2]) (h.sl_rd 1 rfl) (h.ce_rd 0 rfl) (by decide), _, fun _ => Next_spec h 2 rfl, hJ _ _ ?_⟩
    exact k Q5 _ ((((hs1.trans hs2).trans hs3).trans hs4).trans hs5) (h.ordt [11] 17 (by decide) (by decide))
  · exact absurd (by simp [hsent, hqa]) hn
end
end Go.Proofs.Ytfkapbggncejcaa
