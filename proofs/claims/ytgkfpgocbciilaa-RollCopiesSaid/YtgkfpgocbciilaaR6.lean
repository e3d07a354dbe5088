/-
  alive.
-/
import Derived.Test.YtgkfpgocbciilaaR5
set_option linter.unusedVariables false
set_option linter.unusedSimpArgs false
namespace Go.Proofs.Ytgkfpgocbciilaa
open Go Go.Nm Go.Proofs

def rz : List En := List.replicate 64 En.z
def rA : List En := rz.set 3 ⟨1, 1, 10⟩
def rB : List En := rA.set 3 ⟨2, 2, 30⟩
theorem g1 : grant 1 rz 3 1 10 = (rA, ⟨1, 1, 10⟩, true, 0) := by decide
theorem g2 : grant 1 rA 3 1 20 = (rA, ⟨1, 1, 10⟩, false, 0) := by decide
theorem g3 : grant 1 rA 3 2 30 = (rB, ⟨2, 2, 30⟩, true, 0) := by decide
theorem g4 : grant 1 rB 3 1 40 = (rB, En.z, false, 22) := by decide
theorem g5 : grant 1 rB 4 1 40 = (rB, En.z, false, 20) := by decide
theorem s1 : setR 1 rA 3 ⟨1, 1, 0⟩ = (rA, 18) := by decide
theorem tB : tab 0 rB = [(3, ⟨2, 2, 30⟩)] := by decide
theorem oA : rowE rA 3 = ⟨1, 1, 10⟩ := by decide
theorem oB : rowE rB 3 = ⟨2, 2, 30⟩ := by decide

section
variable {rb mb sb : Nat} {most most2 : Int} {rows rows' : List En} {F : List Assn} {H : Heap} {K : Value → Heap → Prop}

theorem Grant_spec' {agent boot now er : Int} {x : En} {b : Bool} (e : grant most rows agent boot now = (rows', x, b, er)) (ok : RowsOk rows) (h : SatL H (rollC rb mb most :: mapE mb rows :: F))
    (k : ∀ H', RowsOk rows' → SatL H' (rollC rb mb most :: mapE mb rows' :: F) → K (.tuple #[aggE x, .bool b, I64 er]) H') :
    CallF Try.prog 9 #[.pointer (some ⟨rb, 0, none⟩), I64 agent, I64 boot, I64 now] H K := by
  have o := grant_ok (most := most) ok agent boot now
  refine Grant_spec ok h ?_
  rw [e] at o ⊢
  exact fun H' h => k H' o h
theorem Set_spec' {agent er : Int} {x : En} (e : setR most rows agent x = (rows', er)) (ok : RowsOk rows) (h : SatL H (rollC rb mb most :: mapE mb rows :: F))
    (k : ∀ H', RowsOk rows' → SatL H' (rollC rb mb most :: mapE mb rows' :: F) → K (I64 er) H') :
    CallF Try.prog 12 #[.pointer (some ⟨rb, 0, none⟩), I64 agent, aggE x] H K := by
  have o := setR_ok (most := most) ok agent x
  refine Set_spec ok h ?_
  rw [e] at o ⊢
  exact fun H' h => k H' o h

theorem Of_spec' {agent : Int} {x : En} (e : rowE rows agent = x) (ok : RowsOk rows) (h : SatL H (rollC rb mb most :: mapE mb rows :: F))
    (k : ∀ H', SatL H' (rollC rb mb most :: mapE mb rows :: F) → K (.tuple #[aggE x, .bool (decide (0 < x.epoch))]) H') :
    CallF Try.prog 15 #[.pointer (some ⟨rb, 0, none⟩), I64 agent] H K := by
  subst e; exact Of_spec ok h k
theorem Is_spec' {agent epoch : Int} {x : En} (e : rowE rows agent = x) (ok : RowsOk rows) (h : SatL H (rollC rb mb most :: mapE mb rows :: F))
    (k : ∀ H', SatL H' (rollC rb mb most :: mapE mb rows :: F) → K (.bool (decide (0 < x.epoch) && decide (x.epoch = epoch))) H') :
    CallF Try.prog 17 #[.pointer (some ⟨rb, 0, none⟩), I64 agent, I64 epoch] H K := by
  subst e; exact Is_spec ok h k

theorem alive_spec (h : SatL H F) (k : ∀ H', SatL H' F → K (.bool true) H') : CallF Try.prog 6 #[] H K := by
  refine alive.call ?_
  unfold alive.code
  refine New_spec h (fun hc => by omega) fun _ rb mb H1 h => ⟨_, _, rfl, fun hc => by simp at hc, fun _ => ?_⟩
  refine Grant_spec' g1 rowsOk_new h fun H2 okA h => ⟨_, _, _, _, _, rfl, ?_⟩
  refine h.al fun b _ h => h.st 0 rfl rfl fun _ h => ?_
  refine Grant_spec' g2 okA (h.ordt [1, 2, 0] 3 (by decide) (by decide)) fun H2 _ h => ⟨_, _, _, _, _, rfl, ?_⟩
  refine h.al fun b1 _ h => h.st 0 rfl rfl fun _ h => ?_
  refine Clone_spec (h.ordt [1, 2, 3, 0] 4 (by decide) (by decide)) fun cb cm H3 h => ⟨_, rfl, ?_⟩
  refine Grant_spec' g3 okA (h.ordt [2, 3, 0, 1] 4 (by decide) (by decide)) fun H2 okB h => ⟨_, _, _, _, _, rfl, ?_⟩
  refine h.al fun b2 _ h => h.st 0 rfl rfl fun _ h => ?_
  refine Grant_spec' g4 okB (h.ordt [1, 2, 0] 3 (by decide) (by decide)) fun H2 _ h => ⟨_, _, _, _, _, rfl, ?_⟩
  refine h.al fun b3 _ h => h.st 0 rfl rfl fun _ h => ?_
  refine Grant_spec' g5 okB (h.ordt [1, 2, 0] 3 (by decide) (by decide)) fun H2 _ h => ⟨_, _, _, _, _, rfl, ?_⟩
  refine h.al fun b4 _ h => h.st 0 rfl rfl fun _ h => ⟨fun hc => (by cases hc), fun _ => ?_⟩
  refine h.al fun b5 _ h => h.st 0 rfl rfl fun _ h => ?_
  refine All_spec h fun c0 H19 h => ⟨_, _, rfl, rfl, fun R hR1 hR2 hy => ?_⟩
  have h := (h.rng R).ordt [0, 3, 2, 5, 6, 1, 4] 7 (by decide) (by decide)
  have h0 := SatL.shut [pt (H19.size + 1) (.loop R), cellsA b5 [I64 0] 2] h
  refine All1_spec okB (fun j => star [pt (H19.size + 1) (.loop R), cellsA b5 [I64 (if j = 0 then 0 else 302)] 2]) (pur False) h0 (fun j hj G H1 K1 h1 kt _ => hy _ _ _ ?_) (fun H5 h5 => ?_) (fun H5 h5 => (SatL.consP h5).1.elim)
  · have hj0 : j = 0 := by rw [tB] at hj; simpa using hj
    subst hj0
    have h := h1.open
    unfold alive.y1
    simp only [tB, List.getElem_cons_zero]
    refine ⟨_, _, _, _, rfl, h.getO 0 rfl, ?_⟩
    refine h.al fun b6 _ h => h.st 0 rfl rfl fun _ h => ⟨h.getO 1 rfl, h.stl 1 rfl fun _ h => ?_⟩
    refine ⟨_, h.rd 2 rfl _, _, h.rd 0 rfl _, h.st 2 rfl rfl fun _ h => ⟨h.getO 1 rfl, kt _ ?_⟩⟩
    have h := (h.setO 1 rfl (.loop R)).tl
    exact SatL.shut [_, _] h
  rw [tB] at h5
  have h := h5.open
  refine ⟨.ready, none, by decide, by rw [loop_eta hR1 hR2]; exact h.getO 0 rfl, h.stl 0 rfl fun H26 h => ⟨rfl, ?_⟩⟩
  refine Of_spec' oA okA (h.ordt [9, 10, 0, 1, 2, 3, 4, 5, 6, 7, 8, 11, 12] 13 (by decide) (by decide)) fun H27 h => ⟨_, _, _, _, rfl, ?_⟩
  refine h.al fun b7 _ h => h.st 0 rfl rfl fun _ h => ?_
  refine Set_spec' (x := ⟨1, 1, 0⟩) s1 okA (h.ordt [1, 2, 0] 3 (by decide) (by decide)) fun H30 _ h => ⟨_, rfl, ?_⟩
  intro Jn hJ
  refine ⟨_, _, _, fun _ => h.rds 12 rfl rfl, _, _, _, fun _ => h.rds 13 rfl rfl, _, fun _ => eql34 ⟨1, 1, 10⟩ ⟨1, 1, 10⟩, ?_⟩
  refine ⟨_, _, _, fun _ => h.rds 12 rfl rfl, _, fun _ => eql34 ⟨1, 1, 10⟩ ⟨1, 1, 10⟩, ?_⟩
  refine ⟨_, _, _, fun _ => h.rds 11 rfl rfl, _, fun _ => eql34 ⟨2, 2, 30⟩ ⟨2, 2, 30⟩, _, fun _ => h.rd 4 rfl _, ?_⟩
  refine ⟨_, _, _, fun _ => h.rds 2 rfl rfl, _, _, _, fun _ => h.rds 12 rfl rfl, _, fun _ => eql34 ⟨1, 1, 10⟩ ⟨1, 1, 10⟩, ?_⟩
  refine ⟨fun _ => ?_, fun hc => absurd (by decide) hc⟩
  refine Is_spec' oB okB (h.ordt [6, 7, 0, 1, 2, 3, 4, 5, 8] 9 (by decide) (by decide)) fun H32 h => ⟨_, rfl, fun _ => ?_, fun hc => absurd (by decide) hc⟩
  refine Is_spec' oB okB h fun H33 h => ⟨_, rfl, hJ _ _ ⟨h.getO 8 rfl, ?_⟩⟩
  exact k _ ((h.setO 8 rfl (.deferred none)).ordt [] 14 (by decide) (by decide))
end
end Go.Proofs.Ytgkfpgocbciilaa
