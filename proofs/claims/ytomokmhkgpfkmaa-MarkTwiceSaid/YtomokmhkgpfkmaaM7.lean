/-
  MarkTwice.
-/
import Derived.Test.YtomokmhkgpfkmaaM6
set_option linter.unusedVariables false
set_option linter.unusedSimpArgs false
namespace Go.Proofs.Ytomokmhkgpfkmaa
open Go Go.Nm Go.Proofs

theorem neq40 (x y : Fl) : EqRun Try.prog .neq 40 (aggF x) (aggF y) (!(x.t == y.t && (x.out == y.out && (x.was == y.was && (x.held == y.held && true))))) :=
  (struct_eql (xs := encF x) (ys := encF y) (by kernel_rfl)).2

section
variable {H0 : Heap} {ca : Option Addr} {cc : Nat} {calls : List CD} {lag : Int}

def tw1 (mb rb b3 b4 l : Nat) (R : Loop) (s : MS) (j : Nat) : Assn := star [markC mb rb s, mapF rb s.m, cellsA b4 [.map (some b3)] 45, mapF b3 (allJ s j), pt l (.loop R)]
def tw2 (mb rb b b3 b4 b6 l : Nat) (R : Loop) (s : MS) (j : Nat) : Assn := star [markC mb rb s, mapF rb s.m, cellsA b4 [.map (some b3)] 45, mapF b3 (allJ s (ksOf s).length), cellsA b6 [I64 j] 3, cellsA b [.bool false] 4, pt l (.loop R)]

set_option maxRecDepth 20000 in
theorem MarkTwice_true {now : Int} (hc : rdS H0 ca (flat encC calls)) :
    CallF Try.prog 5 #[I64 lag, .slice ca calls.length cc, I64 now] H0 fun v H' => v = .bool true ∧ Grow H0 H' := by
  refine MarkTwice.call ?_
  unfold MarkTwice.code
  refine (sat0 H0).al fun b Hb h => ?_
  refine alive_spec h fun H1 h => ⟨_, rfl, fun hc => (by cases hc), fun _ => ⟨fun _ => ?_, fun hlen => ?_⟩⟩
  · exact h.st 0 rfl rfl fun _ h => ⟨_, h.rd 0 rfl _, rfl, h.old_grow 1 rfl⟩
  have hlen : calls.length ≤ 100 := by have := of_decide_eq_false hlen; omega
  refine New_spec h (fun hm => ⟨_, _, rfl, fun _ => h.st 0 rfl rfl fun _ h => ⟨_, h.rd 0 rfl _, rfl, h.old_grow 1 rfl⟩, fun hc => (by cases hc)⟩) fun l1 l2 mb rb H2 h => ⟨_, _, rfl, fun hc => (by cases hc), fun _ => ?_⟩
  refine ⟨fun i H' => ∃ (k : Nat) (s : MS), i = k ∧ k ≤ calls.length ∧ MOk s ∧ SatL H' [markC mb rb s, mapF rb s.m, cellsA b [.bool false] 4, old H0], fun i _ => calls.length - i.toNat,
    ⟨0, MS.new lag, rfl, Nat.zero_le _, MOk.new l1 l2, h⟩, ?_⟩
  rintro i H4 ⟨k, s0, rfl, hk, ok0, h⟩
  unfold MarkTwice.l3
  refine ⟨fun hc1 => ?_, fun hc1 => ?_⟩
  · have hlt : k < calls.length := by have := of_decide_eq_true hc1; omega
    refine h.al fun b2 H5 h => ?_
    have h : SatL H5 (refZ b2 0 :: markC mb rb s0 :: mapF rb s0.m :: cellsA b [.bool false] 4 :: [old H0]) := SatL.mono h fun _ hp => hp
    have hr := h.old_rd 4 rfl hc
    refine ⟨⟨by omega, by omega⟩, _, _, hr.some encC_len (by omega) hlt, _, _, _, _, hr.els encC_len hlt, ?_⟩
    refine Do_spec (F := [cellsA b [.bool false] 4, old H0]) ok0 (h.ordt [1, 2, 0, 3, 4] 5 (by decide) (by decide)) fun r H6 h => ⟨_, rfl, ?_⟩
    rw [w64 (x := (k : Int) + 1) (by omega) (by omega)]
    exact ⟨⟨k + 1, _, rfl, hlt, MOk.doM ok0 _ _ _ _, h⟩, by simp only [Int.toNat_natCast]; omega⟩
  refine Tick_spec ok0 h fun H9 h => ⟨_, rfl, ?_⟩
  have ok := ok0.tick now
  have htw := tick_twice (s := s0) (now := now)
  generalize (s0.tick now).2 = f at *
  generalize (s0.tick now).1 = s at *
  have hle := ok.le
  have hkl := ks_len (s := s)
  refine ⟨_, Value_spec h 0 rfl, _, Now_spec h 0 rfl, ?_⟩
  refine h.alm I64 aggF fun b3 _ h => h.al fun b4 _ h => h.st 0 rfl rfl fun _ h => ?_
  refine All_spec h fun c0 H13 h => ⟨_, _, rfl, rfl, fun R hR1 hR2 hy => ?_⟩
  have h := h.rng R
  have h : SatL _ (markC mb rb s :: mapF rb s.m :: star [cellsA b4 [.map (some b3)] 45, mapF b3 [], pt (H13.size + 1) (.loop R)] :: cellsA c0 [.pointer (some ⟨mb, 0, none⟩)] 24 :: pt H13.size (.deferred (some [])) :: cellsA b [.bool false] 4 :: [old H0]) :=
    (SatL.shut [_, _, _] (h.ordt [3, 4, 0, 5, 6, 2, 1, 7, 8] 9 (by decide) (by decide))).ordt [1, 2, 0] 3 (by decide) (by decide)
  refine All1_spec ok (fun j => tw1 mb rb b3 b4 (H13.size + 1) R s j) (pur False) _ h (fun G H' h => ?_) (fun j hj G H1 K1 h1 kt _ => hy _ _ _ ?_) (fun H5 h => ?_) (fun H5 h5 => (SatL.consP h5).1.elim)
  · refine SatL.shut [_, _, _, _, _] ?_
    exact ((h.ordt [2, 0, 1] 3 (by decide) (by decide)).open).ordt [3, 4, 0, 1, 2] 5 (by decide) (by decide)
  · have h := h1.open
    unfold MarkTwice.y1
    refine ⟨_, _, _, _, _, rfl, h.getO 4 rfl, ?_⟩
    refine h.al fun b5 _ h => h.st 0 rfl rfl fun _ h => ⟨h.getO 5 rfl, h.stl 5 rfl fun H6 h => ⟨_, h.rd 3 rfl _, _, _, _, _, h.rds 0 rfl rfl, ?_⟩⟩
    refine h.mp_update (α := Fl) (v := atF s (ksOf s)[j]) mt45 ko2 4 rfl fun H7 h => ⟨h.getO 5 rfl, kt _ ?_⟩
    have h := h.setO 5 rfl (.loop R)
    refine SatL.shut [_, _, _, _, _] ?_
    have em : mapF b3 (mset (ksOf s)[j] (atF s (ksOf s)[j]) (allJ s j)) = mapF b3 (allJ s (j + 1)) := mapA_perm (allJ_step ok.nd hj)
    rw [← em]
    exact h.ordt [1, 2, 3, 4, 5] 6 (by decide) (by decide)
  have h := SatL.open (A := [_, _, _, _, _]) h
  refine ⟨.ready, none, by decide, by rw [loop_eta hR1 hR2]; exact h.getO 4 rfl, h.stl 4 rfl fun H20 h => ⟨rfl, ?_⟩⟩
  refine Clone_spec h fun mc rc H21 h => ⟨_, rfl, fun hf => (by cases hf), fun _ => ?_⟩
  refine Tick_spec (s := s) (rb := rc) ok h fun H23 h => ⟨_, rfl, ?_⟩
  refine Join_spec h fun H24 h => ⟨_, rfl, ?_⟩
  refine Tick_spec' (s := s) (rb := rb) (F := [cellsA b4 [.map (some b3)] 45, mapF b3 (allJ s (ksOf s).length), pt H13.size (.deferred (some [])), cellsA b [.bool false] 4, old H0]) ok htw (h.ordt [2, 3, 4, 5, 8, 9, 10] 11 (by decide) (by decide)) fun H25 h => ⟨_, rfl, ?_⟩
  refine ⟨_, fun _ => Value_spec h 0 rfl, _, fun _ => Now_spec h 0 rfl, fun hf => (by simp at hf), fun _ => ?_⟩
  refine h.al fun b6 _ h => h.st 0 rfl rfl fun _ h => ?_
  refine All_spec h fun c1 H29 h => ⟨_, _, rfl, rfl, fun R1 hR1' hR2' hy2 => ?_⟩
  have h := h.rng R1
  have h : SatL _ (markC mb rb s :: mapF rb s.m :: star [cellsA b4 [.map (some b3)] 45, mapF b3 (allJ s (ksOf s).length), cellsA b6 [I64 0] 3, cellsA b [.bool false] 4, pt (H29.size + 1) (.loop R1)] :: cellsA c1 [.pointer (some ⟨mb, 0, none⟩)] 24 :: pt H29.size (.deferred (some [])) :: pt H13.size (.deferred (some [])) :: [old H0]) :=
    (SatL.shut [_, _, _, _, _] (h.ordt [6, 7, 3, 9, 0, 4, 5, 2, 1, 8, 10] 11 (by decide) (by decide))).ordt [1, 2, 0] 3 (by decide) (by decide)
  refine All1_spec ok (fun j => tw2 mb rb b b3 b4 b6 (H29.size + 1) R1 s j) (pur False) _ h (fun G H' h => ?_) (fun j hj G H1 K1 h1 kt _ => hy2 _ _ _ ?_) (fun H5 h => ?_) (fun H5 h5 => (SatL.consP h5).1.elim)
  · refine SatL.shut [_, _, _, _, _, _, _] ?_
    exact ((h.ordt [2, 0, 1] 3 (by decide) (by decide)).open).ordt [5, 6, 0, 1, 2, 3, 4] 7 (by decide) (by decide)
  · have h := h1.open
    unfold MarkTwice.y2
    refine ⟨_, _, _, _, _, rfl, h.getO 6 rfl, ?_⟩
    refine h.al fun b7 _ h => h.st 0 rfl rfl fun _ h => ⟨h.getO 7 rfl, h.stl 7 rfl fun H6 h => ⟨_, h.rd 3 rfl _, ?_⟩⟩
    have hl := h.mp_get mt45 ko2 4 rfl (x := (ksOf s)[j])
    rw [allJ_look ok.nd hj] at hl
    refine ⟨_, _, _, _, _, hl, ?_⟩
    refine h.al fun b8 _ h => h.st 0 rfl rfl fun _ h => ?_
    refine ⟨_, _, _, _, fun _ => h.rds 1 rfl rfl, _, _, _, _, fun _ => h.rds 0 rfl rfl, _, fun _ => neq40 _ _, fun hf => (by simp at hf), fun _ => ⟨_, h.rd 6 rfl _, ?_⟩⟩
    rw [w64 (x := (j : Int) + 1) (by omega) (by omega)]
    refine h.st 6 rfl rfl fun H7 h => ⟨h.getO 8 rfl, kt _ ?_⟩
    have h := h.setO 8 rfl (.loop R1)
    refine SatL.shut [_, _, _, _, _, _, _] ?_
    exact h.ordt [2, 3, 4, 5, 6, 7, 8] 9 (by decide) (by decide)
  have h := SatL.open (A := [_, _, _, _, _, _, _]) h
  refine ⟨.ready, none, by decide, by rw [loop_eta hR1' hR2']; exact h.getO 6 rfl, h.stl 6 rfl fun H39 h => Or.inl ⟨rfl, ?_⟩⟩
  have hln := h.mp_len (ty := 3) mt45 3 rfl
  rw [allJ_len] at hln
  refine ⟨_, h.rd 4 rfl _, _, h.rd 2 rfl _, _, hln, ?_⟩
  refine h.st 5 rfl rfl fun H40 h => ⟨h.getO 8 rfl, ?_⟩
  have h := h.setO 8 rfl (.deferred none)
  refine ⟨h.getO 9 rfl, ?_⟩
  have h := h.setO 9 rfl (.deferred none)
  refine ⟨_, h.rd 5 rfl _, ?_, h.old_grow 10 rfl⟩
  simp
end
end Go.Proofs.Ytomokmhkgpfkmaa
