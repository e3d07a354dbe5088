/-
  A call on both disks; whether they agree.
-/
import Derived.Test.YtomdcdfcdeaabaaGreatD6
set_option linter.unusedVariables false
set_option linter.unusedSimpArgs false
namespace Go.Nm
open Go
theorem tdiv2 (n : Nat) : Int.tdiv (n : Int) 2 = ((n / 2 : Nat) : Int) := rfl
theorem rdS.subB {H : Heap} {a : Option Addr} {cs : List Value} {k c : Nat} (h : rdS H a cs) (hc : cs.length ≤ c) : rdS H (slB a k c 1) (cs.drop k) := by
  intro j v hj
  have hj2 : lget cs (k + j) = Option.some v := by
    rw [lget_eq'] at hj ⊢
    rw [List.getElem?_drop] at hj
    exact hj
  obtain ⟨h1, h2⟩ := h (k + j) v hj2
  have hlt := lget_lt hj2
  have e : slB a k c 1 = Option.some ⟨adrB a, adrO a + k, none⟩ := by
    unfold slB
    rw [if_neg (by omega), h1, Option.map_some, Addr_add, Nat.mul_one]; rfl
  rw [e]
  refine ⟨rfl, ?_⟩
  show cellAt H (adrB a) (adrO a + k + j) = Option.some v
  rw [Nat.add_assoc]; exact h2
structure CD where
  what : Int
  file : Int
  keep : Int
  a : Option Addr
  c : Nat
  bs : List Int
abbrev encC (x : CD) : List Value := [.int .i64 x.what, .int .i64 x.file, .int .i64 x.keep, .slice x.a x.bs.length x.c]
theorem encC_len (x : CD) : (encC x).length = 4 := rfl
/-- A call. -/
def doD (s : DR × Nat) (x : CD) : DR × Nat :=
  if x.what = 0 then (if x.file < 0 ∨ 2147483647 < x.file then s else (s.1 ++ x.bs.map (fun b => (x.file, b)), s.2))
  else if x.what = 1 then (s.1, s.1.length)
  else if x.what = 2 then (if bytesOf x.file s.1 = [] then s else if s.2 < s.1.length then s else (s.1.filter (fun r => decide (r.1 ≠ x.file)), (s.1.filter fun r => decide (r.1 ≠ x.file)).length))
  else if x.what = 3 then (crashR s.1 s.2 x.keep, (crashR s.1 s.2 x.keep).length)
  else s
theorem crashR_le (rows : DR) (syn : Nat) (keep : Int) : (crashR rows syn keep).length ≤ rows.length := by unfold crashR; rw [List.length_take]; omega
theorem doD_len (s : DR × Nat) (x : CD) : (doD s x).1.length ≤ s.1.length + x.bs.length := by
  unfold doD
  split
  · split
    · omega
    · simp
  split
  · simp
  split
  · split
    · omega
    split
    · omega
    · have := List.length_filter_le (fun r : Int × Int => decide (r.1 ≠ x.file)) s.1
      simp only; omega
  split
  · have := crashR_le s.1 s.2 x.keep
    simp only; omega
  · omega
theorem doD_syn {s : DR × Nat} (h : s.2 ≤ s.1.length) (x : CD) : (doD s x).2 ≤ (doD s x).1.length := by
  unfold doD
  split
  · split
    · exact h
    · simp; omega
  split
  · exact Nat.le_refl _
  split
  · split
    · exact h
    split
    · exact h
    · exact Nat.le_refl _
  split
  · exact Nat.le_refl _
  · exact h
end Go.Nm
namespace Go.Proofs.YtomdcdfcdeaabaaGreat
open Go Go.Nm Go.Proofs

section
variable {db rb : Nat} {s s2 : DR × Nat} {F L : List Assn} {H : Heap} {K : Value → Heap → Prop}

theorem Agree_spec (hB : s.1.length ≤ 1099511627776) (hs : s.2 ≤ s.1.length) (h : SatL H (diskX db s.1 s.2 :: refX rb s.1 s.2 :: F)) (k : ∀ H', SatL H' (diskX db s.1 s.2 :: refX rb s.1 s.2 :: F) → K (.bool true) H') :
    CallF Tryz.prog 10 #[.pointer (some ⟨db, 0, none⟩), .pointer (some ⟨rb, 0, none⟩)] H K := by
  refine Agree.call ?_
  unfold Agree.code
  have hfl := filesOf_length_le s.1
  refine RFiles_spec (F := diskX db s.1 s.2 :: F) hB (h.ordt [1, 0] 2 (by decide) (by decide)) fun la lc H1 h => ⟨_, _, _, rfl, ?_⟩
  intro Jn hJ
  refine Files_spec (F := slA 3 1 la (filesOf s.1).length lc ((filesOf s.1).map I64) :: refX rb s.1 s.2 :: F) hB (h.ordt [2, 0, 1] 3 (by decide) (by decide)) fun ma mc H2 h => ⟨_, _, _, rfl, _, SameInts_spec (h.sl_rd 0 rfl) (h.sl_rd 2 rfl) (by omega), ?_⟩
  rw [decide_eq_true rfl]
  obtain ⟨a0, c0, h⟩ := refX_open (h.ordt [3, 0, 1, 2] 4 (by decide) (by decide))
  refine ⟨fun _ => trivial, _, _, _, fun _ => h.rd 0 rfl _, fun _ => trivial, _, fun _ => h.rd 0 rfl _, fun _ => ?_, fun hf => absurd rfl hf⟩
  refine Pending_spec (F := cellsA rb [.slice a0 s.1.length c0, I64 s.2] 30 :: slA 108 2 a0 s.1.length c0 (flat encB s.1) :: slA 3 1 la (filesOf s.1).length lc ((filesOf s.1).map I64) :: F) hB (h.ordt [3, 0, 1, 4] 5 (by decide) (by decide)) fun H3 h => ⟨_, rfl, fun _ => h.rd 1 rfl _, fun _ => h.rd 1 rfl _, fun _ => trivial, _, _, _, fun _ => h.rd 1 rfl _, ?_⟩
  rw [w64 (x := (s.1.length : Int) - s.2) (by omega) (by omega), decide_eq_true rfl]
  refine ⟨fun _ => ?_, fun hf => absurd rfl hf⟩
  refine Size_spec hB h fun H4 h => ⟨_, rfl, fun _ => h.rd 1 rfl _, hJ _ _ ?_⟩
  have h := (refX_shut (F := _ :: _ :: F) (h.ordt [1, 2, 0, 3] 4 (by decide) (by decide))).ordt [1, 0, 2] 3 (by decide) (by decide)
  unfold Agree.r3
  rw [decide_eq_true rfl]
  refine ⟨fun hf => (by cases hf), fun _ => ?_⟩
  refine ⟨fun i H' => ∃ j : Nat, i = j ∧ j ≤ (filesOf s.1).length ∧ SatL H' (diskX db s.1 s.2 :: refX rb s.1 s.2 :: slA 3 1 la (filesOf s.1).length lc ((filesOf s.1).map I64) :: F), fun i _ => (filesOf s.1).length - i.toNat, ⟨0, rfl, Nat.zero_le _, h⟩, ?_⟩
  rintro i H5 ⟨j, rfl, hj, h⟩
  unfold Agree.l2
  refine ⟨fun hc => ?_, fun hc => k _ (h.ordt [0, 1] 3 (by decide) (by decide))⟩
  have hlt : j < (filesOf s.1).length := by have := of_decide_eq_true hc; omega
  have hr := (h.sl_rd 2 rfl).at (j := j) hlt
  have hne : bytesOf (filesOf s.1)[j] s.1 ≠ [] := bytesOf_mem.2 (mem_filesOf.1 (List.getElem_mem hlt))
  have hbl := bytesOf_length_le (filesOf s.1)[j] s.1
  refine ⟨⟨by omega, by omega⟩, _, _, hr.1, _, hr.2, Read_spec (f := (filesOf s.1)[j]) hB h (fun hf => absurd hf hne) fun _ ba bc H6 h => ⟨_, _, _, _, rfl, ?_⟩⟩
  intro Jn1 hJ1
  have hr := (h.sl_rd 3 rfl).at (j := j) hlt
  refine ⟨fun _ => ⟨by omega, by omega⟩, _, _, fun _ => hr.1, _, fun _ => hr.2, fun _ => ?_, fun hf => absurd rfl hf⟩
  refine RRead_spec (F := slA 5 1 ba (bytesOf (filesOf s.1)[j] s.1).length bc ((bytesOf (filesOf s.1)[j] s.1).map U8) :: diskX db s.1 s.2 :: slA 3 1 la (filesOf s.1).length lc ((filesOf s.1).map I64) :: F) hB (h.ordt [2, 0, 1, 3] 4 (by decide) (by decide)) fun ca cc H7 h => ⟨_, _, _, rfl, _, SameBytes_spec (h.sl_rd 2 rfl) (h.sl_rd 0 rfl) (by omega), hJ1 _ _ ?_⟩
  rw [decide_eq_true rfl]
  unfold Agree.r1
  refine ⟨fun hf => (by cases hf), fun _ => ?_⟩
  rw [w64 (x := (j : Int) + 1) (by omega) (by omega)]
  exact ⟨⟨j + 1, rfl, hlt, h.ordt [3, 1, 4] 5 (by decide) (by decide)⟩, by simp only [Int.toNat_natCast]; omega⟩
end
end Go.Proofs.YtomdcdfcdeaabaaGreat
