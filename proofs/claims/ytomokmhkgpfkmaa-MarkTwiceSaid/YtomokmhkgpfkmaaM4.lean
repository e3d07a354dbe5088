/-
  alive.
-/
import Derived.Test.YtomokmhkgpfkmaaM3
set_option linter.unusedVariables false
set_option linter.unusedSimpArgs false
namespace Go.Proofs.Ytomokmhkgpfkmaa
open Go Go.Nm Go.Proofs

theorem sort1 (k : Int) : sortI [k] = [k] := sortI_of_sorted (List.pairwise_singleton _ _)
/-- A tick where there is one agent. -/
theorem tick_one {lag n v k now : Int} {x : Fl} : (⟨lag, n, v, [(k, x)]⟩ : MS).tick now =
    if ¬ isT now ∨ now < n then (⟨lag, n, v, [(k, x)]⟩, 11) else (⟨lag, now, maxI v (stepL (now - lag) (now - lag, false) x).1, [(k, updF (now - lag) x)]⟩, 0) := by
  have e : keysOf [(k, x)] = [k] := rfl
  unfold MS.tick
  simp only [e, sort1, foldL, mlook, if_pos, Option.getD_some, List.map_cons, List.map_nil]

section
variable {mb rb sb : Nat} {s s' : MS} {F : List Assn} {H : Heap} {K : Value → Heap → Prop} {r : Int}
theorem Join_spec' {a t : Int} (e : s.join a t = (s', r)) (h : SatL H (markC mb rb s :: mapF rb s.m :: F)) (k : ∀ H', SatL H' (markC mb rb s' :: mapF rb s'.m :: F) → K (I64 r) H') :
    CallF Try.prog 15 #[.pointer (some ⟨mb, 0, none⟩), I64 a, I64 t] H K := Join_spec h fun H' h => by rw [e] at h ⊢; exact k _ h
theorem Raise_spec' {a t : Int} (e : s.raise a t = (s', r)) (h : SatL H (markC mb rb s :: mapF rb s.m :: F)) (k : ∀ H', SatL H' (markC mb rb s' :: mapF rb s'.m :: F) → K (I64 r) H') :
    CallF Try.prog 16 #[.pointer (some ⟨mb, 0, none⟩), I64 a, I64 t] H K := Raise_spec h fun H' h => by rw [e] at h ⊢; exact k _ h
theorem Hold_spec' {a : Int} {t : Bool} (e : s.hold a t = (s', r)) (h : SatL H (markC mb rb s :: mapF rb s.m :: F)) (k : ∀ H', SatL H' (markC mb rb s' :: mapF rb s'.m :: F) → K (I64 r) H') :
    CallF Try.prog 18 #[.pointer (some ⟨mb, 0, none⟩), I64 a, .bool t] H K := Hold_spec h fun H' h => by rw [e] at h ⊢; exact k _ h
theorem Leave_spec' {a : Int} (e : s.leave a = (s', r)) (h : SatL H (markC mb rb s :: mapF rb s.m :: F)) (k : ∀ H', SatL H' (markC mb rb s' :: mapF rb s'.m :: F) → K (I64 r) H') :
    CallF Try.prog 17 #[.pointer (some ⟨mb, 0, none⟩), I64 a] H K := Leave_spec h fun H' h => by rw [e] at h ⊢; exact k _ h
theorem Tick_spec' {t : Int} (ok : MOk s) (e : s.tick t = (s', r)) (h : SatL H (markC mb rb s :: mapF rb s.m :: F)) (k : ∀ H', SatL H' (markC mb rb s' :: mapF rb s'.m :: F) → K (I64 r) H') :
    CallF Try.prog 12 #[.pointer (some ⟨mb, 0, none⟩), I64 t] H K := Tick_spec ok h fun H' h => by rw [e] at h ⊢; exact k _ h

def a0 : MS := MS.new 100
def a1 : MS := ⟨100, 0, -100, [(3, ⟨50, false, false, false⟩)]⟩
def a2 : MS := ⟨100, 120, 50, [(3, ⟨50, false, false, false⟩)]⟩
def a3 : MS := ⟨100, 151, 51, [(3, ⟨50, true, true, false⟩)]⟩
def a4 : MS := ⟨100, 151, 51, [(3, ⟨140, true, true, false⟩)]⟩
def a5 : MS := ⟨100, 160, 140, [(3, ⟨140, false, true, false⟩)]⟩
def a6 : MS := ⟨100, 120, 50, [(3, ⟨50, false, false, true⟩)]⟩
def a7 : MS := ⟨100, 120, 50, []⟩
theorem e1 : a0.join 3 50 = (a1, 0) := by decide +kernel
theorem e2 : a1.tick 120 = (a2, 0) := tick_one.trans (by decide +kernel)
theorem e3 : a2.tick 151 = (a3, 0) := tick_one.trans (by decide +kernel)
theorem e4 : a3.raise 3 140 = (a4, 0) := by decide +kernel
theorem e5 : a4.tick 160 = (a5, 0) := tick_one.trans (by decide +kernel)
theorem e6 : a5.tick 159 = (a5, 11) := tick_one.trans (by decide +kernel)
theorem e7 : a5.leave 4 = (a5, 19) := by decide +kernel
theorem e8 : a2.hold 3 true = (a6, 0) := by decide +kernel
theorem e9 : a6.leave 3 = (a7, 0) := by decide +kernel
theorem ok0 : MOk a0 := MOk.new (by decide) (by decide)
theorem ok1 : MOk a1 := by have := ok0.join 3 50; rwa [e1] at this
theorem ok2 : MOk a2 := by have := ok1.tick 120; rwa [e2] at this
theorem ok3 : MOk a3 := by have := ok2.tick 151; rwa [e3] at this
theorem ok4 : MOk a4 := by have := ok3.raise 3 140; rwa [e4] at this
theorem ok5 : MOk a5 := by have := ok4.tick 160; rwa [e5] at this
theorem ks5 : ksOf a5 = [3] := sort1 3

def alA (mb rb b1 l : Nat) (R : Loop) (j : Nat) : Assn := star [markC mb rb a5, mapF rb a5.m, cellsA b1 [I64 (if j = 0 then 0 else 3140)] 2, pt l (.loop R)]

theorem alive_spec (h : SatL H F) (k : ∀ H', SatL H' F → K (.bool true) H') : CallF Try.prog 6 #[] H K := by
  refine alive.call ?_
  unfold alive.code
  refine New_spec h (fun hf => by omega) fun _ _ mb rb H1 h => ⟨_, _, rfl, fun hf => (by cases hf), fun _ => ?_⟩
  have h : SatL H1 (markC mb rb a0 :: mapF rb a0.m :: F) := h
  refine ⟨_, Value_spec h 0 rfl, ?_⟩
  refine Join_spec' e1 h fun H2 h => ⟨_, rfl, ?_⟩
  refine Tick_spec' ok1 e2 h fun H3 h => ⟨_, rfl, _, Value_spec h 0 rfl, ?_⟩
  refine Clone_spec h fun mc rc H4 h => ⟨_, rfl, ?_⟩
  refine Tick_spec' ok2 e3 (F := markC mc rc a2 :: mapF rc a2.m :: F) (h.ordt [2, 3, 0, 1] 4 (by decide) (by decide)) fun H5 h => ⟨_, rfl, ?_⟩
  refine Of_spec h fun H6 h => ⟨_, _, _, _, _, rfl, ?_⟩
  refine h.al fun bx _ h => h.st 0 rfl rfl fun _ h => ?_
  refine Raise_spec' e4 (F := markC mc rc a2 :: mapF rc a2.m :: cellsA bx (encF ⟨50, true, true, false⟩) 40 :: F) (h.ordt [1, 2, 3, 4, 0] 5 (by decide) (by decide)) fun H7 h => ⟨_, rfl, ?_⟩
  refine Tick_spec' ok4 e5 h fun H8 h => ⟨_, rfl, ?_⟩
  refine Tick_spec' ok5 e6 h fun H9 h => ⟨_, rfl, ?_⟩
  refine Leave_spec' e7 h fun H10 h => ⟨_, rfl, fun hf => (by cases hf), fun _ => ?_⟩
  refine h.al fun b1 _ h => h.st 0 rfl rfl fun _ h => ?_
  refine All_spec h fun c0 H11 h => ⟨_, _, rfl, rfl, fun R hR1 hR2 hy => ?_⟩
  have h := h.rng R
  have h : SatL _ (markC mb rb a5 :: mapF rb a5.m :: star [cellsA b1 [I64 0] 2, pt (H11.size + 1) (.loop R)] :: cellsA c0 [.pointer (some ⟨mb, 0, none⟩)] 24 :: pt H11.size (.deferred (some [])) :: markC mc rc a2 :: mapF rc a2.m :: cellsA bx (encF ⟨50, true, true, false⟩) 40 :: F) :=
    (SatL.shut [_, _] (h.ordt [3, 0, 4, 5, 2, 1, 6, 7, 8] 9 (by decide) (by decide))).ordt [1, 2, 0] 3 (by decide) (by decide)
  refine All1_spec ok5 (fun j => alA mb rb b1 (H11.size + 1) R j) (pur False) _ h (fun G H' h => ?_) (fun j hj G H1 K1 h1 kt _ => hy _ _ _ ?_) (fun H5 h => ?_) (fun H5 h5 => (SatL.consP h5).1.elim)
  · refine SatL.shut [_, _, _, _] ?_
    exact ((h.ordt [2, 0, 1] 3 (by decide) (by decide)).open).ordt [2, 3, 0, 1] 4 (by decide) (by decide)
  · rw [ks5] at hj
    obtain rfl : j = 0 := by simpa using hj
    have ek : (ksOf a5)[0]'(by rw [ks5]; decide) = 3 := by simp only [ks5]; rfl
    rw [ek]
    have h := h1.open
    unfold alive.y1
    refine ⟨_, _, _, _, _, rfl, h.getO 3 rfl, ?_⟩
    refine h.al fun b2 _ h => h.st 0 rfl rfl fun _ h => ⟨h.getO 4 rfl, h.stl 4 rfl fun H6 h => ⟨_, h.rd 3 rfl _, _, h.rd 0 rfl _, ?_⟩⟩
    have ev : IntKind.i64.wrap (0 + IntKind.i64.wrap (IntKind.i64.wrap (1000 * 3) + 140)) = 3140 := by decide +kernel
    refine h.st 3 rfl rfl fun H7 h => ⟨h.getO 4 rfl, kt _ ?_⟩
    have h := h.setO 4 rfl (.loop R)
    refine SatL.shut [_, _, _, _] ?_
    exact h.ordt [1, 2, 3, 4] 5 (by decide) (by decide)
  · have e0 : (ksOf a5).length = 1 := by rw [ks5]; rfl
    rw [e0] at h
    have h := SatL.open (A := [_, _, _, _]) h
    refine ⟨.ready, none, by decide, by rw [loop_eta hR1 hR2]; exact h.getO 3 rfl, h.stl 3 rfl fun H9 h => ⟨rfl, ?_⟩⟩
    refine Hold_spec' e8 (F := markC mb rb a5 :: mapF rb a5.m :: cellsA b1 [I64 3140] 2 :: cellsA bx (encF ⟨50, true, true, false⟩) 40 :: pt H11.size (.deferred (some [])) :: F) (h.ordt [6, 7, 0, 1, 2, 8, 5] 9 (by decide) (by decide)) fun H20 h => ⟨_, rfl, ?_⟩
    refine Leave_spec' e9 h fun H21 h => ⟨_, rfl, ?_⟩
    refine h.alm I64 aggF fun b3 _ h => ?_
    refine h.mp_update (α := Fl) (v := ⟨7, false, false, false⟩) mt45 ko2 0 rfl fun H22 h => ?_
    refine Set_spec (s := a7) (ag := [(1, ⟨7, false, false, false⟩)]) (F := markC mb rb a5 :: mapF rb a5.m :: cellsA b1 [I64 3140] 2 :: cellsA bx (encF ⟨50, true, true, false⟩) 40 :: pt H11.size (.deferred (some [])) :: F) (by decide) (by decide) (by decide) (fun p hp => ?_)
      (h.ordt [1, 2, 0] 3 (by decide) (by decide)) fun rb' H23 h => ⟨_, rfl, ?_⟩
    · rw [List.mem_singleton] at hp; subst hp; decide
    refine ⟨_, fun _ => h.rd 6 rfl _, _, fun _ => h.rd 6 rfl _, _, fun _ => h.rd 5 rfl _, _, fun _ => Value_spec h 3 rfl, _, fun _ => Now_spec h 3 rfl, _, fun _ => Now_spec (s := ⟨100, 9, 5, [(1, ⟨7, false, false, false⟩)]⟩) h 0 rfl, _, fun _ => Value_spec (s := ⟨100, 9, 5, [(1, ⟨7, false, false, false⟩)]⟩) h 0 rfl, h.getO 7 rfl, ?_⟩
    have h := h.setO 7 rfl (.deferred none)
    exact k _ (h.ordt [] 8 (by decide) (by decide))
end
end Go.Proofs.Ytomokmhkgpfkmaa
