/-
  What RollRises writes down, plainly.
-/
import Derived.Test.YtgkfpgocbciilaaRQ
set_option linter.unusedVariables false
set_option linter.unusedSimpArgs false
namespace Go.Nm
open Go
abbrev PM := List ((Int × Int) × Int)
def InvB (rows : List En) (bs : PM) : Prop := ∀ p ∈ bs, p.1.2 ≤ (rowE rows p.1.1).boot ∧ (p.1.2 = (rowE rows p.1.1).boot → p.2 = (rowE rows p.1.1).epoch)
def InvE (rows : List En) (es : PM) : Prop := ∀ p ∈ es, p.1.2 ≤ (rowE rows p.1.1).epoch ∧ (p.1.2 = (rowE rows p.1.1).epoch → p.2 = (rowE rows p.1.1).boot)

theorem grant_rise {most : Int} {rows rows' : List En} {agent boot now : Int} {x : En} {fr : Bool} {bs es : PM} (ok : RowsOk rows) (hin : RollIn most rows) (e : grant most rows agent boot now = (rows', x, fr, 0)) (hb : InvB rows bs) (he : InvE rows es) :
    rowE rows' agent = x ∧ 0 < x.epoch ∧ x.boot = boot ∧ (0 < (rowE rows agent).epoch → (rowE rows agent).epoch ≤ x.epoch ∧ (rowE rows agent).boot ≤ x.boot) ∧ fr = decide ((rowE rows agent).epoch < x.epoch) ∧
    (∀ v, mlook (agent, x.boot) bs = some v → v = x.epoch) ∧ (∀ v, mlook (agent, x.epoch) es = some v → v = x.boot) ∧
    InvB rows' (mset (agent, x.boot) x.epoch bs) ∧ InvE rows' (mset (agent, x.epoch) x.boot es) := by
  have ha := ok.at agent
  rcases grant_cases most ok agent boot now with ⟨er, hne, e'⟩ | ⟨h1, h2, e'⟩ | ⟨h0, hl, b1, b2, n1, n2, e0, e1, h3, h5, e'⟩
  · rw [e] at e'; simp only [Prod.mk.injEq] at e'; exact absurd e'.2.2.2.symm hne
  · rw [e] at e'; simp only [Prod.mk.injEq] at e'
    obtain ⟨rfl, rfl, rfl, _⟩ := e'
    refine ⟨rfl, h1, h2, fun _ => ⟨by omega, by omega⟩, by simp, fun v hv => ?_, fun v hv => ?_, fun p hp => ?_, fun p hp => ?_⟩
    · exact (hb _ (mlook_some_mem hv)).2 rfl
    · exact (he _ (mlook_some_mem hv)).2 rfl
    · rcases List.mem_cons.1 hp with rfl | hp
      · exact ⟨Int.le_refl _, fun _ => rfl⟩
      · exact hb p (mem_mdel.1 hp).1
    · rcases List.mem_cons.1 hp with rfl | hp
      · exact ⟨Int.le_refl _, fun _ => rfl⟩
      · exact he p (mem_mdel.1 hp).1
  · rw [e] at e'; simp only [Prod.mk.injEq] at e'
    obtain ⟨rfl, rfl, rfl, _⟩ := e'
    have hset := fun a => rowE_set (rows := rows) (a := a) (x := ⟨(rowE rows agent).epoch + 1, boot, now⟩) h0 hl
    have hs := hset agent
    rw [if_pos rfl] at hs
    have hz : ¬ 0 < (rowE rows agent).epoch → (rowE rows agent).boot = 0 := fun h => by rw [ok.rowZ agent h]; rfl
    have hlt : (rowE rows agent).boot < boot := by
      by_cases hp : 0 < (rowE rows agent).epoch
      · exact h3 hp
      · have := hz hp; omega
    simp only
    refine ⟨hs, by omega, trivial, fun hp => ⟨by omega, by omega⟩, (decide_eq_true (by omega)).symm, fun v hv => ?_, fun v hv => ?_, fun p hp => ?_, fun p hp => ?_⟩
    · have := (hb _ (mlook_some_mem hv)).1; simp only at this; omega
    · have := (he _ (mlook_some_mem hv)).1; simp only at this; omega
    · rcases List.mem_cons.1 hp with rfl | hp
      · simp only; rw [hs]; exact ⟨Int.le_refl _, fun _ => rfl⟩
      · have := hb p (mem_mdel.1 hp).1
        rw [hset p.1.1]
        split
        · rename_i h; rw [h] at this; simp only; exact ⟨by omega, fun h => by omega⟩
        · exact this
    · rcases List.mem_cons.1 hp with rfl | hp
      · simp only; rw [hs]; exact ⟨Int.le_refl _, fun _ => rfl⟩
      · have := he p (mem_mdel.1 hp).1
        rw [hset p.1.1]
        split
        · rename_i h; rw [h] at this; simp only; exact ⟨by omega, fun h => by omega⟩
        · exact this
theorem grant_not {most : Int} {rows rows' : List En} {agent boot now er : Int} {x : En} {fr : Bool} (ok : RowsOk rows) (e : grant most rows agent boot now = (rows', x, fr, er)) (hne : er ≠ 0) : rows' = rows ∧ fr = false := by
  rcases grant_cases most ok agent boot now with ⟨er', _, e'⟩ | ⟨h1, h2, e'⟩ | ⟨h0, hl, b1, b2, n1, n2, e0, e1, h3, h5, e'⟩
  · rw [e] at e'; simp only [Prod.mk.injEq] at e'; exact ⟨e'.1, e'.2.2.1⟩
  · rw [e] at e'; simp only [Prod.mk.injEq] at e'; exact absurd e'.2.2.2 hne
  · rw [e] at e'; simp only [Prod.mk.injEq] at e'; exact absurd e'.2.2.2 hne
end Go.Nm
