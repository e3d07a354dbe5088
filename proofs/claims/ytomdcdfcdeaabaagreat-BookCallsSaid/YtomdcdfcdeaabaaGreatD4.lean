/-
  The disk's functions, walked (4): Clone.
-/
import Derived.Test.YtomdcdfcdeaabaaGreatD3
set_option linter.unusedVariables false
set_option linter.unusedSimpArgs false
namespace Go.Proofs.YtomdcdfcdeaabaaGreat
open Go Go.Nm Go.Proofs

section
variable {db : Nat} {rows : DR} {syn : Nat} {F L : List Assn} {H : Heap} {K : Value → Heap → Prop}

/-- What a clone has made, behind the files dn. -/
structure CI (m m' new dn : YM) : Prop where
  nd : (keysOf m').Nodup
  nn : (keysOf new).Nodup
  like : ∀ f, (mlook f new).map Fy.bs = (mlook f dn).map Fy.bs
  look : ∀ f, mlook f m' = match mlook f new with | some y => some y | none => mlook f m
theorem CI.new {m : YM} (h : (keysOf m).Nodup) : CI m m [] [] := ⟨h, List.nodup_nil, fun _ => rfl, fun f => rfl⟩
theorem mlook_snoc {dn : YM} {p : Int × Fy} (hn : p.1 ∉ keysOf dn) (f : Int) : mlook f (dn ++ [p]) = if f = p.1 then some p.2 else mlook f dn := by
  induction dn with
  | nil =>
    simp only [List.nil_append, mlook]
  | cons q r ih =>
    simp only [keysOf, List.map_cons, List.mem_cons, not_or] at hn
    have ih := ih hn.2
    simp only [List.cons_append, mlook]
    split
    · rename_i e
      rw [if_neg (fun e2 => hn.1 (by rw [← e, ← e2]))]
    · exact ih
theorem CI.step {m m' new dn : YM} {p : Int × Fy} {y : Fy} (h : CI m m' new dn) (hn : p.1 ∉ keysOf dn) (hy : y.bs = p.2.bs) : CI m (mset p.1 y m') ((p.1, y) :: new) (dn ++ [p]) := by
  have hnn : p.1 ∉ keysOf new := by
    have := h.like p.1
    rw [mlook_none.2 hn] at this
    exact mlook_none.1 (Option.map_eq_none_iff.1 this)
  refine ⟨nodup_mset h.nd, by simp only [keysOf, List.map_cons, List.nodup_cons]; exact ⟨hnn, h.nn⟩, fun f => ?_, fun f => ?_⟩
  · rw [mlook_snoc hn]
    simp only [mlook]
    by_cases e : f = p.1
    · rw [if_pos e, if_pos e]; simp [hy]
    · rw [if_neg e, if_neg e]; exact h.like f
  · rw [mlook_mset]
    simp only [mlook]
    by_cases e : f = p.1
    · rw [if_pos e, if_pos e]
    · rw [if_neg e, if_neg e]; exact h.look f
theorem CI.done {m m' new dn : YM} (h : CI m m' new dn) (hd : (keysOf m).Nodup) (hp : dn.Perm m) : m'.Perm new ∧ ∀ f, (mlook f new).map Fy.bs = (mlook f m).map Fy.bs := by
  have hl : ∀ f, mlook f dn = mlook f m := fun f => mlook_perm ((hp.map Prod.fst).nodup_iff.2 hd) hp
  refine ⟨perm_of_look h.nd h.nn fun f => ?_, fun f => by rw [h.like f, hl f]⟩
  rw [h.look f]
  cases hn : mlook f new with
  | some y => rfl
  | none =>
    have := h.like f
    rw [hn, hl f] at this
    exact Option.map_eq_none_iff.1 this.symm

end
end Go.Proofs.YtomdcdfcdeaabaaGreat
