/-
  A call on both disks; whether they agree.
-/
import Derived.Test.YtomdcdfcdeaabaaD6
set_option linter.unusedVariables false
set_option linter.unusedSimpArgs false
namespace Go.Nm
open Go
theorem tdiv2 (n : Nat) : Int.tdiv (n : Int) 2 = ((n / 2 : Nat) : Int) := rfl
theorem rdS.subB {H : Heap} {a : Option Addr} {cs : List Value} {k c : Nat} (h : rdS H a cs) (hc : cs.length ≤ c) : rdS H (slB a k c 1) (cs.drop k) := by
  intro j v hj
  have hj2 : lget cs (k + j) = Option.some v := by
    rw [lget_eq'] at hj ⊢
    rw [List.getElem?_drop] at hj
    exact hj
  obtain ⟨h1, h2⟩ := h (k + j) v hj2
  have hlt := lget_lt hj2
  have e : slB a k c 1 = Option.some ⟨adrB a, adrO a + k, none⟩ := by
    unfold slB
    rw [if_neg (by omega), h1, Option.map_some, Addr_add, Nat.mul_one]; rfl
  rw [e]
  refine ⟨rfl, ?_⟩
  show cellAt H (adrB a) (adrO a + k + j) = Option.some v
  rw [Nat.add_assoc]; exact h2
structure CD where
  what : Int
  file : Int
  keep : Int
  a : Option Addr
  c : Nat
  bs : List Int
abbrev encC (x : CD) : List Value := [.int .i64 x.what, .int .i64 x.file, .int .i64 x.keep, .slice x.a x.bs.length x.c]
theorem encC_len (x : CD) : (encC x).length = 4 := rfl
/-- A call. -/
def doD (s : DR × Nat) (x : CD) : DR × Nat :=
  if x.what = 0 then (if x.file < 0 ∨ 2147483647 < x.file then s else (s.1 ++ x.bs.map (fun b => (x.file, b)), s.2))
  else if x.what = 1 then (s.1, s.1.length)
  else if x.what = 2 then (if bytesOf x.file s.1 = [] then s else if s.2 < s.1.length then s else (s.1.filter (fun r => decide (r.1 ≠ x.file)), (s.1.filter fun r => decide (r.1 ≠ x.file)).length))
  else if x.what = 3 then (crashR s.1 s.2 x.keep, (crashR s.1 s.2 x.keep).length)
  else s
theorem crashR_le (rows : DR) (syn : Nat) (keep : Int) : (crashR rows syn keep).length ≤ rows.length := by unfold crashR; rw [List.length_take]; omega
theorem doD_len (s : DR × Nat) (x : CD) : (doD s x).1.length ≤ s.1.length + x.bs.length := by
  unfold doD
  split
  · split
    · omega
    · simp
  split
  · simp
  split
  · split
    · omega
    split
    · omega
    · have := List.length_filter_le (fun r : Int × Int => decide (r.1 ≠ x.file)) s.1
      simp only; omega
  split
  · have := crashR_le s.1 s.2 x.keep
    simp only; omega
  · omega
theorem doD_syn {s : DR × Nat} (h : s.2 ≤ s.1.length) (x : CD) : (doD s x).2 ≤ (doD s x).1.length := by
  unfold doD
  split
  · split
    · exact h
    · simp; omega
  split
  · exact Nat.le_refl _
  split
  · split
    · exact h
    split
    · exact h
    · exact Nat.le_refl _
  split
  · exact Nat.le_refl _
  · exact h
end Go.Nm
namespace Go.Proofs.Ytomdcdfcdeaabaa
open Go Go.Nm Go.Proofs

section
variable {db rb : Nat} {s s2 : DR × Nat} {F L : List Assn} {H : Heap} {K : Value → Heap → Prop}

theorem Great_spec {a : Option Addr} {c : Nat} {calls : List CD} (hr : rdS H a (flat encC calls)) (hl : calls.length ≤ maxLen) : CallQ Try.prog 14 #[.slice a calls.length c] H (.bool (!decide (calls.length ≤ 60 ∧ ∀ x ∈ calls, x.bs.length ≤ 200))) := by
  unfold CallQ
  unfold maxLen at hl
  refine Great.call ?_
  unfold Great.code
  refine ⟨fun hc => ?_, fun hc => ?_⟩
  · have : ¬ (calls.length ≤ 60 ∧ ∀ x ∈ calls, x.bs.length ≤ 200) := fun h => by have := of_decide_eq_true hc; omega
    rw [decide_eq_false this]
    exact ⟨rfl, rfl⟩
  have h60 : calls.length ≤ 60 := by have := of_decide_eq_false hc; omega
  refine ⟨fun i H' => H' = H ∧ ∃ k : Nat, i = k ∧ k ≤ calls.length ∧ ∀ x ∈ calls.take k, x.bs.length ≤ 200, fun i _ => calls.length - i.toNat, ⟨rfl, 0, rfl, Nat.zero_le _, by simp⟩, ?_⟩
  rintro i H' ⟨rfl, k, rfl, hk, hall⟩
  unfold Great.l1
  refine ⟨fun hc2 => ?_, fun hc2 => ?_⟩
  · have hlt : k < calls.length := by have := of_decide_eq_true hc2; omega
    refine ⟨⟨by omega, by omega⟩, _, _, hr.some encC_len (by omega) hlt, _, _, _, hr.el encC_len hlt 3 rfl, fun hc3 => ?_, fun hc3 => ?_⟩
    · have : ¬ (calls.length ≤ 60 ∧ ∀ x ∈ calls, x.bs.length ≤ 200) := fun h => by
        have h1 := h.2 _ (List.getElem_mem hlt)
        have := of_decide_eq_true hc3; omega
      rw [decide_eq_false this]
      exact ⟨rfl, rfl⟩
    · rw [w64 (x := (k : Int) + 1) (by omega) (by omega)]
      refine ⟨⟨rfl, k + 1, rfl, hlt, fun x hx => ?_⟩, by simp only [Int.toNat_natCast]; omega⟩
      rw [List.take_succ_eq_append_getElem hlt] at hx
      rcases List.mem_append.1 hx with hx | hx
      · exact hall x hx
      · rw [List.mem_singleton] at hx; subst hx
        have := of_decide_eq_false hc3; omega
  · obtain rfl : k = calls.length := by have := of_decide_eq_false hc2; omega
    rw [List.take_length] at hall
    rw [decide_eq_true (show calls.length ≤ 60 ∧ ∀ x ∈ calls, x.bs.length ≤ 200 from ⟨h60, hall⟩)]
    exact ⟨rfl, rfl⟩

theorem Do_spec {x : CD} (hk : wf64 x.keep) (hx : x.bs.length ≤ 1000000) (hB : s.1.length + x.bs.length ≤ 1099511627776) (hB2 : s2.1.length + x.bs.length ≤ 1099511627776) (hs2 : s2.2 ≤ s2.1.length)
    (hl : ∀ H', SatL H' F → rdS H' x.a (x.bs.map U8)) (h : SatL H (diskX db s.1 s.2 :: refX rb s2.1 s2.2 :: F))
    (k : ∀ r H', (s2 = s → r = true) → SatL H' (diskX db (doD s x).1 (doD s x).2 :: refX rb (doD s2 x).1 (doD s2 x).2 :: F) → K (.bool r) H') :
    CallF Try.prog 16 #[.pointer (some ⟨db, 0, none⟩), .pointer (some ⟨rb, 0, none⟩), .agg #[I64 x.what, I64 x.file, I64 x.keep, .slice x.a x.bs.length x.c]] H K := by
  refine Do.call ?_
  unfold Do.code
  refine h.al fun b _ h => ⟨_, h.rd 0 rfl _, ?_⟩
  intro Jn hJ
  refine ⟨fun hc => ?_, fun hc => ?_⟩
  · have hw : x.what = 0 := of_decide_eq_true hc
    have e1 : ∀ s : DR × Nat, doD s x = if x.file < 0 ∨ 2147483647 < x.file then s else (s.1 ++ x.bs.map (fun b => (x.file, b)), s.2) := fun s => if_pos hw
    refine ⟨_, _, _, h.rd 0 rfl _, ?_⟩
    refine CopyBytes_own h (fun H h => hl H h.tl.tl.tl) (by omega) fun oa oc H2 h => ⟨_, _, _, rfl, by decide, _, h.rd 1 rfl _, ?_⟩
    rw [tdiv2, w64 (x := ((x.bs.length / 2 : Nat) : Int)) (by omega) (by omega)]
    have hnc := h.sl_nc 0 rfl
    have hh : x.bs.length / 2 ≤ x.bs.length := Nat.div_le_self _ _
    refine ⟨⟨by omega, by omega, by omega⟩, ⟨by omega, by omega, by omega⟩, _, h.rd 1 rfl _, _, _, _, h.rd 1 rfl _, ?_⟩
    rw [Int.toNat_natCast]
    generalize x.bs.length / 2 = q at *
    have et : (x.bs.take q).length = q := by rw [List.length_take]; omega
    have ed : (x.bs.drop q).length = x.bs.length - q := List.length_drop
    refine h.al fun b1 H3 h => ⟨h.rd 2 rfl _, h.rd 2 rfl _, h.rd 2 rfl _, ?_⟩
    have eparts : [Value.slice (slB oa 0 oc 1) q oc, .slice (slB oa q oc 1) (x.bs.length - q) (oc - q)] = [(⟨slB oa 0 oc 1, oc, x.bs.take q⟩ : Fy), ⟨slB oa q oc 1, oc - q, x.bs.drop q⟩].map encY := by
      show _ = [Value.slice (slB oa 0 oc 1) (x.bs.take q).length oc, .slice (slB oa q oc 1) (x.bs.drop q).length (oc - q)]
      rw [et, ed]
    have eap : appd x.file [(⟨slB oa 0 oc 1, oc, x.bs.take q⟩ : Fy), ⟨slB oa q oc 1, oc - q, x.bs.drop q⟩] = x.bs.map fun b => (x.file, b) := by
      unfold appd
      simp only [List.flatMap_cons, List.flatMap_nil, List.append_nil, List.take_append_drop]
    have hfl : ([(⟨slB oa 0 oc 1, oc, x.bs.take q⟩ : Fy), ⟨slB oa q oc 1, oc - q, x.bs.drop q⟩].flatMap Fy.bs).length = x.bs.length := by
      simp only [List.flatMap_cons, List.flatMap_nil, List.append_nil, List.take_append_drop]
    have hrd : ∀ H', SatL H' (cellsA b1 [Value.slice (slB oa 0 oc 1) q oc, .slice (slB oa q oc 1) (x.bs.length - q) (oc - q)] 32 :: slA 5 1 oa x.bs.length oc (x.bs.map U8) :: cellsA b (encC x) 34 :: refX rb s2.1 s2.2 :: F) →
        rdS H' (some ⟨b1, 0, none⟩) ([(⟨slB oa 0 oc 1, oc, x.bs.take q⟩ : Fy), ⟨slB oa q oc 1, oc - q, x.bs.drop q⟩].map encY) ∧ ∀ p ∈ [(⟨slB oa 0 oc 1, oc, x.bs.take q⟩ : Fy), ⟨slB oa q oc 1, oc - q, x.bs.drop q⟩], rdS H' p.a (p.bs.map U8) := by
      intro H' h'
      refine ⟨?_, fun p hp => ?_⟩
      · rw [← eparts]; exact h'.ce_rd 0 rfl
      · have hr := h'.sl_rd 1 rfl
        simp only [List.mem_cons, List.not_mem_nil, or_false] at hp
        rcases hp with rfl | rfl
        · have := (rdS.subB (k := 0) hr (by simpa using hnc)).take q
          rw [List.drop_zero, ← List.map_take] at this
          exact this
        · have := rdS.subB (k := q) hr (by simpa using hnc)
          rw [← List.map_drop] at this
          exact this
    have fin : ∀ (t t2 : DR × Nat) H', t = doD s x → t2 = doD s2 x → SatL H' (slA 5 1 oa x.bs.length oc (x.bs.map U8) :: diskX db t.1 t.2 :: refX rb t2.1 t2.2 :: F) →
        ∃ (Inv : Int → Heap → Prop) (mu : Int → Heap → Nat), Inv 0 H' ∧ ∀ (i : Int), ∀ H_6 : Heap, Inv i H_6 → Do.l2 Jn oa x.bs.length Inv mu i H_6 := by
      rintro t t2 H' rfl rfl h'
      refine ⟨fun i H' => ∃ (j : Nat) (bs : List Int), i = j ∧ j ≤ x.bs.length ∧ bs.length = x.bs.length ∧ SatL H' (slA 5 1 oa x.bs.length oc (bs.map U8) :: diskX db (doD s x).1 (doD s x).2 :: refX rb (doD s2 x).1 (doD s2 x).2 :: F), fun i _ => x.bs.length - i.toNat,
        ⟨0, x.bs, rfl, Nat.zero_le _, rfl, h'⟩, ?_⟩
      rintro i H6 ⟨j, bs, rfl, hj, hbl, h⟩
      unfold Do.l2
      refine ⟨fun hc2 => ?_, fun hc2 => ?_⟩
      · have hlt : j < x.bs.length := by have := of_decide_eq_true hc2; omega
        have hr := (h.sl_rd 0 rfl).at (j := j) (by omega)
        have hst := h.sl_set 0 rfl j [U8 (IntKind.u8.wrap (bs[j] + 1))] (by simp only [List.length_map, List.length_singleton]; omega) (by simp)
        refine ⟨⟨by omega, by omega⟩, _, _, hr.1, _, hr.2, ⟨by omega, by omega⟩, _, _, hr.1, hst.2.1, ?_⟩
        rintro H7 rfl
        have h7 := hst.2.2
        rw [setsL_map1] at h7
        rw [w64 (x := (j : Int) + 1) (by omega) (by omega)]
        exact ⟨⟨j + 1, _, rfl, hlt, by rw [List.length_set]; exact hbl, h7⟩, by simp only [Int.toNat_natCast]; omega⟩
      · refine hJ _ ?_
        unfold Do.r1
        exact k _ _ (fun _ => rfl) h.tl
    refine Append_spec (F := cellsA b1 [Value.slice (slB oa 0 oc 1) q oc, .slice (slB oa q oc 1) (x.bs.length - q) (oc - q)] 32 :: slA 5 1 oa x.bs.length oc (x.bs.map U8) :: cellsA b (encC x) 34 :: refX rb s2.1 s2.2 :: F) (pc := 2)
      (parts := [(⟨slB oa 0 oc 1, oc, x.bs.take q⟩ : Fy), ⟨slB oa q oc 1, oc - q, x.bs.drop q⟩]) (by rw [hfl]; omega) (by simp) hrd (h.ordt [3, 0, 1, 2, 4] 5 (by decide) (by decide)) (fun hb H4 h => ⟨_, rfl, h.rd 3 rfl _, h.rd 3 rfl _, ?_⟩) fun hb H4 h => ⟨_, rfl, h.rd 3 rfl _, h.rd 3 rfl _, ?_⟩
    · refine RAppend_spec (F := slA 5 1 oa x.bs.length oc (x.bs.map U8) :: diskX db s.1 s.2 :: F) hB2 (fun H h => hl H h.tl.tl) (h.ordt [4, 2, 0] 5 (by decide) (by decide)) (fun _ H5 h => ⟨_, rfl, fun hf => (by simp at hf), fun _ => ?_⟩) fun hn => absurd hb hn
      exact fin s s2 _ (by rw [e1, if_pos hb]) (by rw [e1, if_pos hb]) (h.ordt [1, 2, 0] 3 (by decide) (by decide))
    · rw [eap] at h
      refine RAppend_spec (F := slA 5 1 oa x.bs.length oc (x.bs.map U8) :: diskX db (s.1 ++ x.bs.map fun b => (x.file, b)) s.2 :: F) hB2 (fun H h => hl H h.tl.tl) (h.ordt [4, 2, 0] 5 (by decide) (by decide)) (fun hn => absurd hn hb) fun _ H5 h => ⟨_, rfl, fun hf => (by simp at hf), fun _ => ?_⟩
      exact fin (s.1 ++ x.bs.map (fun b => (x.file, b)), s.2) (s2.1 ++ x.bs.map (fun b => (x.file, b)), s2.2) _ (by rw [e1, if_neg hb]) (by rw [e1, if_neg hb]) (h.ordt [1, 2, 0] 3 (by decide) (by decide))
  have n0 : ¬ x.what = 0 := of_decide_eq_false hc
  intro Jn1 hJ1
  have fin : ∀ H', SatL H' (diskX db (doD s x).1 (doD s x).2 :: refX rb (doD s2 x).1 (doD s2 x).2 :: F) → Jn1 H' := fun H' h' => hJ1 _ (hJ _ (k _ _ (fun _ => rfl) h'))
  refine ⟨fun hc => ?_, fun hc => ?_⟩
  · have hw : x.what = 1 := of_decide_eq_true hc
    have e1 : ∀ s : DR × Nat, doD s x = (s.1, s.1.length) := fun s => by unfold doD; rw [if_neg n0, if_pos hw]
    refine Sync_spec (F := refX rb s2.1 s2.2 :: F) (h.ordt [1, 2] 3 (by decide) (by decide)) fun H1 h => ⟨rfl, RSync_spec (F := diskX db s.1 s.1.length :: F) (h.ordt [1, 0] 2 (by decide) (by decide)) fun H2 h => ⟨rfl, fin _ ?_⟩⟩
    rw [e1, e1]
    exact h.ordt [1, 0] 2 (by decide) (by decide)
  have n1 : ¬ x.what = 1 := of_decide_eq_false hc
  refine ⟨fun hc => ?_, fun hc => ?_⟩
  · have hw : x.what = 2 := of_decide_eq_true hc
    have e1 : ∀ s : DR × Nat, doD s x = (if bytesOf x.file s.1 = [] then s else if s.2 < s.1.length then s else (s.1.filter (fun r => decide (r.1 ≠ x.file)), (s.1.filter fun r => decide (r.1 ≠ x.file)).length)) := fun s => by unfold doD; rw [if_neg n0, if_neg n1, if_pos hw]
    refine ⟨_, h.rd 0 rfl _, _, h.rd 0 rfl _, ?_⟩
    have go : ∀ (t : DR × Nat) (rr : Int) H1, t = doD s x → (rr = if bytesOf x.file s.1 = [] then 23 else if s.2 < s.1.length then 21 else 0) → SatL H1 (diskX db t.1 t.2 :: refX rb s2.1 s2.2 :: cellsA b (encC x) 34 :: F) →
        cellAt H1 b 1 = some (I64 x.file) ∧ CallF Try.prog 58 #[.pointer (some ⟨rb, 0, none⟩), I64 x.file] H1 fun u6 H_12 => ∃ r3 : Int, u6 = I64 r3 ∧ K (.bool (decide (rr = r3))) H_12 := by
      rintro t rr H1 rfl hrr h
      refine ⟨h.rd 2 rfl _, ?_⟩
      have done : ∀ (t2 : DR × Nat) (r3 : Int) H2, t2 = doD s2 x → (r3 = if bytesOf x.file s2.1 = [] then 23 else if s2.2 < s2.1.length then 21 else 0) → SatL H2 (refX rb t2.1 t2.2 :: diskX db (doD s x).1 (doD s x).2 :: cellsA b (encC x) 34 :: F) → ∃ r4 : Int, I64 r3 = I64 r4 ∧ K (.bool (decide (rr = r4))) H2 := by
        rintro t2 r3 H2 rfl hr3 h
        exact ⟨r3, rfl, k _ _ (fun e => decide_eq_true (by rw [hrr, hr3, e])) (h.ordt [1, 0] 3 (by decide) (by decide))⟩
      refine RDelete_spec (F := diskX db (doD s x).1 (doD s x).2 :: cellsA b (encC x) 34 :: F) (by omega) hs2 (h.ordt [1, 0, 2] 3 (by decide) (by decide)) (fun hb H2 h => ?_) (fun hb hs H2 h => ?_) fun hb hs H2 h => ?_
      · exact done s2 _ _ (by rw [e1, if_pos hb]) (by rw [if_pos hb]) h
      · exact done s2 _ _ (by rw [e1, if_neg hb, if_pos hs]) (by rw [if_neg hb, if_pos hs]) h
      · exact done (_, _) _ _ (by rw [e1, if_neg hb, if_neg hs]) (by rw [if_neg hb, if_neg hs]) h
    refine Delete_spec (F := refX rb s2.1 s2.2 :: cellsA b (encC x) 34 :: F) (h.ordt [1, 2, 0] 3 (by decide) (by decide)) (fun hb H1 h => ⟨_, rfl, ?_⟩) (fun hb hs H1 h => ⟨_, rfl, ?_⟩) fun hb hs H1 h => ⟨_, rfl, ?_⟩
    · exact go s _ _ (by rw [e1, if_pos hb]) (by rw [if_pos hb]) h
    · exact go s _ _ (by rw [e1, if_neg hb, if_pos hs]) (by rw [if_neg hb, if_pos hs]) h
    · exact go (_, _) _ _ (by rw [e1, if_neg hb, if_neg hs]) (by rw [if_neg hb, if_neg hs]) h
  have n2 : ¬ x.what = 2 := of_decide_eq_false hc
  intro Jn2 hJ2
  refine ⟨fun hc => ?_, fun hc => ?_⟩
  · have hw : x.what = 3 := of_decide_eq_true hc
    have e1 : ∀ s : DR × Nat, doD s x = (crashR s.1 s.2 x.keep, (crashR s.1 s.2 x.keep).length) := fun s => by unfold doD; rw [if_neg n0, if_neg n1, if_neg n2, if_pos hw]
    refine ⟨_, h.rd 0 rfl _, Crash_spec (F := refX rb s2.1 s2.2 :: cellsA b (encC x) 34 :: F) hk (by omega) (h.ordt [1, 2, 0] 3 (by decide) (by decide)) fun H1 h => ⟨rfl, _, h.rd 2 rfl _, ?_⟩⟩
    refine RCrash_spec (F := diskX db (crashR s.1 s.2 x.keep) (crashR s.1 s.2 x.keep).length :: F) hk (by omega) hs2 (h.ordt [1, 0] 3 (by decide) (by decide)) fun H2 h => ⟨rfl, hJ2 _ (fin _ ?_)⟩
    rw [e1, e1]
    exact h.ordt [1, 0] 2 (by decide) (by decide)
  · have n3 : ¬ x.what = 3 := of_decide_eq_false hc
    have e1 : ∀ s : DR × Nat, doD s x = s := fun s => by unfold doD; rw [if_neg n0, if_neg n1, if_neg n2, if_neg n3]
    refine hJ2 _ (fin _ ?_)
    rw [e1, e1]
    exact h.tl

theorem Agree_spec (hB : s.1.length ≤ 1099511627776) (hs : s.2 ≤ s.1.length) (h : SatL H (diskX db s.1 s.2 :: refX rb s.1 s.2 :: F)) (k : ∀ H', SatL H' (diskX db s.1 s.2 :: refX rb s.1 s.2 :: F) → K (.bool true) H') :
    CallF Try.prog 17 #[.pointer (some ⟨db, 0, none⟩), .pointer (some ⟨rb, 0, none⟩)] H K := by
  refine Agree.call ?_
  unfold Agree.code
  have hfl := filesOf_length_le s.1
  refine RFiles_spec (F := diskX db s.1 s.2 :: F) hB (h.ordt [1, 0] 2 (by decide) (by decide)) fun la lc H1 h => ⟨_, _, _, rfl, ?_⟩
  intro Jn hJ
  refine Files_spec (F := slA 3 1 la (filesOf s.1).length lc ((filesOf s.1).map I64) :: refX rb s.1 s.2 :: F) hB (h.ordt [2, 0, 1] 3 (by decide) (by decide)) fun ma mc H2 h => ⟨_, _, _, rfl, _, SameInts_spec (h.sl_rd 0 rfl) (h.sl_rd 2 rfl) (by omega), ?_⟩
  rw [decide_eq_true rfl]
  obtain ⟨a0, c0, h⟩ := refX_open (h.ordt [3, 0, 1, 2] 4 (by decide) (by decide))
  refine ⟨fun _ => trivial, _, _, _, fun _ => h.rd 0 rfl _, fun _ => trivial, _, fun _ => h.rd 0 rfl _, fun _ => ?_, fun hf => absurd rfl hf⟩
  refine Pending_spec (F := cellsA rb [.slice a0 s.1.length c0, I64 s.2] 30 :: slA 105 2 a0 s.1.length c0 (flat encB s.1) :: slA 3 1 la (filesOf s.1).length lc ((filesOf s.1).map I64) :: F) hB (h.ordt [3, 0, 1, 4] 5 (by decide) (by decide)) fun H3 h => ⟨_, rfl, fun _ => h.rd 1 rfl _, fun _ => h.rd 1 rfl _, fun _ => trivial, _, _, _, fun _ => h.rd 1 rfl _, ?_⟩
  rw [w64 (x := (s.1.length : Int) - s.2) (by omega) (by omega), decide_eq_true rfl]
  refine ⟨fun _ => ?_, fun hf => absurd rfl hf⟩
  refine Size_spec hB h fun H4 h => ⟨_, rfl, fun _ => h.rd 1 rfl _, hJ _ _ ?_⟩
  have h := (refX_shut (F := _ :: _ :: F) (h.ordt [1, 2, 0, 3] 4 (by decide) (by decide))).ordt [1, 0, 2] 3 (by decide) (by decide)
  unfold Agree.r3
  rw [decide_eq_true rfl]
  refine ⟨fun hf => (by cases hf), fun _ => ?_⟩
  refine ⟨fun i H' => ∃ j : Nat, i = j ∧ j ≤ (filesOf s.1).length ∧ SatL H' (diskX db s.1 s.2 :: refX rb s.1 s.2 :: slA 3 1 la (filesOf s.1).length lc ((filesOf s.1).map I64) :: F), fun i _ => (filesOf s.1).length - i.toNat, ⟨0, rfl, Nat.zero_le _, h⟩, ?_⟩
  rintro i H5 ⟨j, rfl, hj, h⟩
  unfold Agree.l2
  refine ⟨fun hc => ?_, fun hc => k _ (h.ordt [0, 1] 3 (by decide) (by decide))⟩
  have hlt : j < (filesOf s.1).length := by have := of_decide_eq_true hc; omega
  have hr := (h.sl_rd 2 rfl).at (j := j) hlt
  have hne : bytesOf (filesOf s.1)[j] s.1 ≠ [] := bytesOf_mem.2 (mem_filesOf.1 (List.getElem_mem hlt))
  have hbl := bytesOf_length_le (filesOf s.1)[j] s.1
  refine ⟨⟨by omega, by omega⟩, _, _, hr.1, _, hr.2, Read_spec (f := (filesOf s.1)[j]) hB h (fun hf => absurd hf hne) fun _ ba bc H6 h => ⟨_, _, _, _, rfl, ?_⟩⟩
  intro Jn1 hJ1
  have hr := (h.sl_rd 3 rfl).at (j := j) hlt
  refine ⟨fun _ => ⟨by omega, by omega⟩, _, _, fun _ => hr.1, _, fun _ => hr.2, fun _ => ?_, fun hf => absurd rfl hf⟩
  refine RRead_spec (F := slA 5 1 ba (bytesOf (filesOf s.1)[j] s.1).length bc ((bytesOf (filesOf s.1)[j] s.1).map U8) :: diskX db s.1 s.2 :: slA 3 1 la (filesOf s.1).length lc ((filesOf s.1).map I64) :: F) hB (h.ordt [2, 0, 1, 3] 4 (by decide) (by decide)) fun ca cc H7 h => ⟨_, _, _, rfl, _, SameBytes_spec (h.sl_rd 2 rfl) (h.sl_rd 0 rfl) (by omega), hJ1 _ _ ?_⟩
  rw [decide_eq_true rfl]
  unfold Agree.r1
  refine ⟨fun hf => (by cases hf), fun _ => ?_⟩
  rw [w64 (x := (j : Int) + 1) (by omega) (by omega)]
  exact ⟨⟨j + 1, rfl, hlt, h.ordt [3, 1, 4] 5 (by decide) (by decide)⟩, by simp only [Int.toNat_natCast]; omega⟩
end
end Go.Proofs.Ytomdcdfcdeaabaa
