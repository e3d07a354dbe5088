/-
  Disk's law: alive; every row of calls.
-/
import Derived.Test.YtomdcdfcdeaabaaGreatD7
import Derived.Test.YtomdcdfcdeaabaaGreatRW
set_option linter.unusedVariables false
set_option linter.unusedSimpArgs false
namespace Go.Nm
open Go
/-- A row that is a literal's: it may be read. -/
abbrev litA (b : Nat) (cs : List Value) (e : TypeId) : Assn := pt b (.cells cs.toArray e (cs.length, cs.length + 1))
theorem SatL.lit_rd {H : Heap} {L : List Assn} {b e : Nat} {cs : List Value} (h : SatL H L) (i : Nat) (hA : nth i L = litA b cs e) : rdS H (some ⟨b, 0, none⟩) cs := fun j v hj => ⟨rfl, by
  have h2 := h.foc i
  rw [hA] at h2
  have h3 := h2.get
  rw [lget_eq'] at hj
  simp [cellAt, h3, adrB, adrO, hj]⟩
theorem conv_same {P : Program} {t e b n c : Nat} {cs : List Value} {H : Heap} {L : List Assn} {K : Value → Heap → Prop} (ht : P.underlying t = some (.slice e)) (he : P.underlying e = some (.int .u8)) (h : SatL H (cellsA b cs e :: L))
    (k : ∀ H', SatL H' (litA b cs e :: L) → K (.slice (some ⟨b, 0, none⟩) n c) H') : RunW P (convert t t (.slice (some ⟨b, 0, none⟩) n c)) H K := by
  intro w hw
  subst hw
  have hb : w.heap[b]? = some (.cells cs.toArray e (0, 0)) := Sat.get h
  refine ⟨.slice (some ⟨b, 0, none⟩) n c, w.freeze ⟨b, cs.length, none⟩ 1, ?_, ⟨rfl, rfl, rfl⟩, k _ ?_⟩
  · have hs : w.shape? b = some (e, cs.length) := by simp [World.shape?, hb]
    simp only [convert, Sem.run_bind, run_underlying ht, Result.andThen_ok, beq_self_eq_true, run_underlying he, markStringish, shape, freeze, Sem.run, hs, Sem.bind, Sem.run_pure]
  · refine Sat.upd h ?_ fun i hi => ?_
    · simp only [World.freeze]
      rw [if_neg (by decide), Array.getElem?_modify, if_pos rfl, hb]; rfl
    · simp only [World.freeze]
      rw [if_neg (by decide), Array.getElem?_modify, if_neg (fun e => hi e.symm)]
end Go.Nm
namespace Go.Proofs.YtomdcdfcdeaabaaGreat
open Go Go.Nm Go.Proofs

section
variable {F L : List Assn} {H : Heap} {K : Value → Heap → Prop}

def w5 : DR := [(1, 97), (1, 98), (1, 99), (1, 100), (0, 101)]
theorem files5 : filesOf w5 = [0, 1] := rising_eq (filesOf_rising _) (by decide) fun x => by
  rw [mem_filesOf]
  simp only [w5, List.map_cons, List.map_nil, List.mem_cons, List.not_mem_nil, or_false]
  omega

end

def CallOk (H0 : Heap) (x : CD) : Prop := rdS H0 x.a (x.bs.map U8) ∧ wf64 x.keep
theorem reads_bytes {H : Type} {enc : TypeId × Value → H} {W : World} {cs : List Value} (h : Reads enc Tryz.prog W 32 cs) :
    ∃ a c bs, cs = [.slice a (List.length bs) c] ∧ bs.length ≤ maxLen ∧ rdS W.heap a (bs.map U8) ∧ ∀ x ∈ bs, 0 ≤ x ∧ x ≤ 255 := by
  obtain ⟨a, c, bs, e, hl, hr, hq⟩ := reads_rows (ec := fun x : Int => [U8 x]) (Q := fun x => 0 ≤ x ∧ x ≤ 255) Tryz.underlying32 (by kernel_rfl) (by decide) h (fun us hu _ => by
      obtain ⟨n, e, h1, h2⟩ := reads_int Tryz.underlying5 hu
      exact ⟨n, e, h1, h2⟩) (fun _ => rfl)
  have ef : ∀ xs : List Int, flat (fun x => [U8 x]) xs = xs.map U8 := by
    intro xs
    induction xs with
    | nil => rfl
    | cons x r ih => rw [flat_cons, ih]; rfl
  rw [ef] at hr
  exact ⟨a, c, bs, e, hl, hr, hq⟩
section
variable {H0 : Heap} {ca : Option Addr} {cc : Nat} {calls : List CD}

theorem great_no {calls : List CD} (h : (!decide (calls.length ≤ 60 ∧ ∀ x ∈ calls, x.bs.length ≤ 200)) = false) : calls.length ≤ 60 ∧ ∀ x ∈ calls, x.bs.length ≤ 200 := by simpa using h

end
end Go.Proofs.YtomdcdfcdeaabaaGreat
