/-
  '==' and '!=' of structs whose fields are plain.
-/
import Derived.Test.YtomdcdfcdeaabaaGreatSM
import Derived.Laws.StructEq
import Derived.ChangeKeysEq
set_option linter.unusedVariables false
set_option linter.unusedSimpArgs false
namespace Go.Nm
open Go

/-- What '==' says of two plain values. -/
def eqPlain : Value → Value → Option Bool
  | .int k a, .int k' b => if k = k' then some (a == b) else none
  | .bool a, .bool b => some (a == b)
  | .string a, .string b => some (a == b)
  | _, _ => none
def plainDesc : Option TypeDesc → Value → Bool
  | some (.int _), .int _ _ => true
  | some .bool, .bool _ => true
  | some .string, .string _ => true
  | _, _ => false
def eqFieldsB (P : Program) (xs ys : List Value) : List Field → Option Bool
  | [] => some true
  | f :: fs => if f.name = "_" then none else match lget xs f.offset, lget ys f.offset with
    | some a, some b => if plainDesc (P.underlying f.type) a && plainDesc (P.underlying f.type) b then
        match eqPlain a b, eqFieldsB P xs ys fs with
        | some r, some s => some (r && s)
        | _, _ => none
      else none
    | _, _ => none
def structEqB (P : Program) (t : TypeId) (xs ys : List Value) : Option Bool :=
  match P.underlying t with
  | some (.struct fs) => if P.stoodInHeld t = false ∧ P.eqGuardType P.depth t = false then eqFieldsB P xs ys fs.toList else none
  | _ => none

theorem eqPlain_run {P : Program} {w : World} {t : TypeId} {a b : Value} {r : Bool} (ha : plainDesc (P.underlying t) a = true) (hb : plainDesc (P.underlying t) b = true) (h : eqPlain a b = some r) (d : Nat) :
    (Op.equalIn (d + 1) t a b).run P w = .ok r w := by
  cases hu : P.underlying t with
  | none => rw [hu] at ha; simp [plainDesc] at ha
  | some k =>
    rw [hu] at ha hb
    cases k <;> cases a <;> simp [plainDesc] at ha <;> cases b <;> simp [plainDesc] at hb <;> simp [eqPlain] at h
    · subst h; simp [Op.equalIn, run_underlying hu]
    · obtain ⟨rfl, rfl⟩ := h; simp [Op.equalIn, run_underlying hu]
    · subst h; simp [Op.equalIn, run_underlying hu]
theorem plain_part {P : Program} {w : World} {t : TypeId} {xs : List Value} {o : Nat} {a : Value} (ha : plainDesc (P.underlying t) a = true) (hx : lget xs o = some a) : (part t ⟨xs⟩ o).run P w = .ok a w := by
  rw [lget_eq'] at hx
  cases hu : P.underlying t with
  | none => rw [hu] at ha; simp [plainDesc] at ha
  | some k =>
    rw [hu] at ha
    have hx' : (⟨xs⟩ : Array Value)[o]? = some a := by simpa using hx
    cases k <;> cases a <;> simp [plainDesc] at ha <;> simp [part, isAgg, run_underlying hu, hx']
theorem eqFields_run {P : Program} {w : World} {xs ys : List Value} (d : Nat) : ∀ {fs : List Field} {r : Bool}, eqFieldsB P xs ys fs = some r → (Op.eqFields (d + 1) ⟨xs⟩ ⟨ys⟩ fs).run P w = .ok r w
  | [], r, h => by simp [eqFieldsB] at h; subst h; simp [Op.eqFields]
  | f :: fs, r, h => by
    simp only [eqFieldsB] at h
    split at h
    · cases h
    · rename_i hn
      split at h
      · rename_i a b hx hy
        split at h
        · rename_i hp
          simp only [Bool.and_eq_true] at hp
          split at h
          · rename_i r1 s hr hs
            cases h
            simp only [Op.eqFields, ne_eq, hn, not_false_eq_true, if_true, Sem.run_bind, plain_part hp.1 hx, plain_part hp.2 hy, Result.andThen_ok, eqPlain_run hp.1 hp.2 hr]
            cases r1
            · simp
            · simp [eqFields_run d hs]
          · cases h
        · cases h
      · cases h
theorem struct_eql {P : Program} {t : TypeId} {xs ys : List Value} {r : Bool} (h : structEqB P t xs ys = some r) : EqRun P .eql t (.agg ⟨xs⟩) (.agg ⟨ys⟩) r ∧ EqRun P .neq t (.agg ⟨xs⟩) (.agg ⟨ys⟩) (!r) := by
  unfold structEqB at h
  split at h
  · rename_i fs hu
    split at h
    · rename_i hg
      have hf : P.fieldsOf t = fs := by simp [Program.fieldsOf, hu]
      have hu' : P.underlying t = some (.struct (P.fieldsOf t)) := by rw [hf]; exact hu
      have he : ∀ w, (Op.equalIn 10000 t (.agg ⟨xs⟩) (.agg ⟨ys⟩)).run P w = .ok r w := by
        intro w
        show (Op.equalIn (9998 + 1 + 1) t (.agg ⟨xs⟩) (.agg ⟨ys⟩)).run P w = .ok r w
        generalize 9998 = n
        rw [run_equalIn_struct w (n + 1) t ⟨xs⟩ ⟨ys⟩ hu' hg.1, hf]
        exact eqFields_run n h
      constructor
      · intro ox oy w
        simp only [Sem.run_bind, run_eqGuard_agg w .eql t ox oy ⟨xs⟩ ⟨ys⟩ hg.2, Result.andThen_ok, run_eql_struct, he]
      · intro ox oy w
        simp only [Sem.run_bind, run_eqGuard_agg w .neq t ox oy ⟨xs⟩ ⟨ys⟩ hg.2, Result.andThen_ok, run_neq_struct, he]
    · cases h
  · cases h
end Go.Nm
