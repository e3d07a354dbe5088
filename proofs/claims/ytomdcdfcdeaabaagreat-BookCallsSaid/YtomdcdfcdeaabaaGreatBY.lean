/-
  Memory that is kept as it is: rows of values that are only read; bytes.
-/
import Derived.Test.YtomdcdfcdeaabaaGreatST
set_option linter.unusedVariables false
set_option linter.unusedSimpArgs false
namespace Go.Nm
open Go

abbrev U8 := Value.int .u8
/-- Whoever has Q can read these cells. -/
def KIn (Q : Assn) (a : Option Addr) (cs : List Value) : Prop := ∀ H F, SatL H (Q :: F) → rdS H a cs
/-- Q' has all that Q has. -/
def Sub (Q Q' : Assn) : Prop := ∀ H F, SatL H (Q' :: F) → ∃ F', SatL H (Q :: F')
def KG (H0 : Heap) (Q : Assn) : Prop := ∀ H F, SatL H (Q :: F) → Grow H0 H
theorem Sub.refl (Q : Assn) : Sub Q Q := fun H F h => ⟨F, h⟩
theorem Sub.trans {Q Q' Q'' : Assn} (h : Sub Q Q') (h2 : Sub Q' Q'') : Sub Q Q'' := fun H F hs => by
  obtain ⟨F', h'⟩ := h2 H F hs
  exact h H F' h'
theorem satL_sep {H : Heap} {A B : Assn} {L : List Assn} : SatL H ((A * B) :: L) ↔ SatL H (A :: B :: L) := by
  unfold SatL
  simp only [star]
  rw [sep_assoc]
theorem Sub.add (A Q : Assn) : Sub Q (A * Q) := fun H F h => ⟨A :: F, (satL_sep.1 h).ord [1, 0] (by decide) |> fun _ => by
  have := (satL_sep.1 h).ordt [1, 0] 2 (by decide) (by decide)
  exact this⟩
theorem KIn.sub {Q Q' : Assn} {a : Option Addr} {cs : List Value} (h : KIn Q a cs) (hs : Sub Q Q') : KIn Q' a cs := fun H F hq => by
  obtain ⟨F', h'⟩ := hs H F hq
  exact h H F' h'
theorem KG.sub {Q Q' : Assn} {H0 : Heap} (h : KG H0 Q) (hs : Sub Q Q') : KG H0 Q' := fun H F hq => by
  obtain ⟨F', h'⟩ := hs H F hq
  exact h H F' h'
theorem KG.old (H0 : Heap) : KG H0 (old H0) := fun H F h => h.old_grow 0 rfl
theorem KIn.old {H0 : Heap} {a : Option Addr} {cs : List Value} (h : rdS H0 a cs) : KIn (old H0) a cs := fun H F hs => hs.old_rd 0 rfl h
theorem KIn.sl {Q : Assn} {e sz n c : Nat} {a : Option Addr} {cs : List Value} : KIn (slA e sz a n c cs * Q) a cs := fun H F h => (satL_sep.1 h).sl_rd 0 rfl
theorem KIn.nil (Q : Assn) (a : Option Addr) : KIn Q a [] := fun H F h => rdS_nil H a
theorem KIn.at {Q : Assn} {a : Option Addr} {cs : List Value} {H : Heap} {L : List Assn} (h : KIn Q a cs) (hs : SatL H L) (i : Nat) (hA : nth i L = Q) : rdS H a cs := by
  have h2 := hs.foc i
  rw [hA] at h2
  exact h H (del i L) h2
theorem rdS_none {H : Heap} {cs : List Value} (h : rdS H none cs) : cs = [] := by
  cases cs with
  | nil => rfl
  | cons v r => have := (h 0 v rfl).1; cases this
theorem plain_map {α : Type} {enc : α → Value} (he : ∀ x, plainCells [enc x] = true) : ∀ l : List α, plainCells (l.map enc) = true
  | [] => rfl
  | a :: r => by
    have h1 := he a
    have h2 := plain_map he r
    have : plainCells (enc a :: r.map enc) = plainCells ([enc a] ++ r.map enc) := rfl
    rw [List.map_cons, this]
    exact plain_append h1 h2

/-- A fresh copy of a row that is kept: it is kept, too. -/
theorem kept_append {P : Program} {H : Heap} {L : List Assn} {Q : Assn} {b e t ty bytes c : Nat} {a : Option Addr} {cs : List Value} {K : Value → Heap → Prop} (T : SlT P t e 1 bytes) (h : SatL H (cellsA b [] e :: Q :: L)) (ha : rdS H a cs) (hp : plainCells cs = true)
    (hb : cs.length * bytes ≤ 140737488355328) (hn : cs.length ≤ 140737488355328)
    (k : ∀ Q' a' c' H', Sub Q Q' → KIn Q' a' cs → SatL H' (Q' :: L) → K (.slice a' cs.length c') H') :
    RunW P (Builtin.append_ #[t, t] ty #[.slice (some ⟨b, 0, none⟩) 0 0, .slice a cs.length c]) H K := by
  have h1 : SatL H (slA e 1 (some ⟨b, 0, none⟩) 0 0 [] :: Q :: L) := SatL.sl_pt (cs := []) h 1 0 rfl
  refine SatL.append T h1 0 rfl ha (by omega) hp (by rw [Nat.zero_add]; exact hb) (by omega) fun a' c' H' h2 => ?_
  have h3 : SatL H' (slA e 1 a' (0 + cs.length) c' ([] ++ cs) :: Q :: L) := h2
  rw [Nat.zero_add] at h3 ⊢
  rw [List.nil_append] at h3
  exact k _ a' c' H' (Sub.add _ Q) KIn.sl (satL_sep.2 h3)
end Go.Nm
