/-
  The laws' helpers.
-/
import Derived.Test.YtfgabhogcbmhoaaH4
import Derived.Test.YtfgabhogcbmhoaaRW
set_option linter.unusedVariables false
set_option linter.unusedSimpArgs false
namespace Go.Nm
open Go
theorem SatL.ce_rd {H : Heap} {L : List Assn} (h : SatL H L) (i : Nat) {b e : Nat} {cs : List Value} (hA : nth i L = cellsA b cs e) : rdS H (some ⟨b, 0, none⟩) cs := fun j v hj => ⟨rfl, by
  simp only [adrB, adrO, Nat.zero_add]
  rw [h.rd i hA]; exact hj⟩
theorem decide_t {p : Prop} [Decidable p] (h : p) : decide p = true := decide_eq_true h
end Go.Nm
namespace Go.Proofs.Ytfgabhogcbmhoaa
open Go Go.Nm Go.Proofs

section
variable {hb mb : Nat} {s s' : HS} {F : List Assn} {H : Heap} {K : Value → Heap → Prop} {first : Int} {ia : Option Addr} {ic : Nat} {items ready : List Int} {refused : Int}

theorem Offer_spec' (e : s.offer first items = (s', ready, refused)) (h : SatL H (holdC hb mb s.next s.most :: mapI mb s.rows :: F)) (ok : s.Ok) (hn : s.next ≤ 1125899906842624)
    (hF : ∀ H, SatL H F → rdS H ia (items.map I64)) (hlen : items.length ≤ 1000000)
    (k : ∀ a c H', s'.Ok → s.next ≤ s'.next → s'.next ≤ s.next + s.most → SatL H' (slA 2 1 a ready.length c (ready.map I64) :: holdC hb mb s'.next s'.most :: mapI mb s'.rows :: F) → K (.tuple #[.slice a ready.length c, I64 refused]) H') :
    CallF Try.prog 12 #[.pointer (some ⟨hb, 0, none⟩), I64 first, .slice ia items.length ic] H K := by
  have ho := HS.offer_ok ok first items
  refine Offer_spec h ok hn hF hlen fun a c H' h' => ?_
  rw [e] at ho h' ⊢
  simp only at ho h' ⊢
  obtain ⟨o1, o2, o3, o4⟩ := ho
  refine k a c H' o1 o2 o3 ?_
  rw [o4]; exact h'

theorem great_spec {H : Heap} {ca : Option Addr} {cc : Nat} {α : Type} {ec : α → List Value} {calls : List α} (it : α → Option Addr × Nat × Nat) (he : ∀ x, (ec x).length = 3) (hit : ∀ x, lget (ec x) 2 = some (.slice (it x).1 (it x).2.1 (it x).2.2))
    (hc : rdS H ca (flat ec calls)) :
    CallQ Try.prog 8 #[.slice ca calls.length cc] H (.bool (decide (60 < calls.length) || calls.any fun x => decide (100 < (it x).2.1))) := by
  unfold CallQ
  refine great.call ?_
  unfold great.code
  refine ⟨fun hc1 => ?_, fun hc1 => ?_⟩
  · have : 60 < calls.length := by simp at hc1; omega
    exact ⟨by simp [this], rfl⟩
  · have hle : ¬ 60 < calls.length := by simp at hc1; omega
    refine ⟨fun i H' => H' = H ∧ ∃ k : Nat, i = k ∧ k ≤ calls.length ∧ (calls.any fun x => decide (100 < (it x).2.1)) = ((calls.drop k).any fun x => decide (100 < (it x).2.1)), fun i _ => calls.length - i.toNat, ⟨rfl, 0, rfl, Nat.zero_le _, rfl⟩, ?_⟩
    rintro i H' ⟨rfl, k, rfl, hk, hm⟩
    unfold great.l1
    refine ⟨fun hc2 => ?_, fun hc2 => ?_⟩
    · have hlt : k < calls.length := by simpa using hc2
      have e3 : IntKind.i64.wrap ((k : Int) + 1) = ((k + 1 : Nat) : Int) := w64 (by omega) (by omega)
      rw [List.drop_eq_getElem_cons hlt, List.any_cons] at hm
      refine ⟨⟨by omega, by omega⟩, _, _, hc.some he (by omega) hlt, _, _, _, hc.el he hlt 2 (hit _), fun hc3 => ?_, fun hc3 => ?_⟩
      · have : 100 < (it calls[k]).2.1 := by simp at hc3; omega
        exact ⟨by rw [hm]; simp [this], rfl⟩
      · have : ¬ 100 < (it calls[k]).2.1 := by simp at hc3; omega
        rw [decide_eq_false this, Bool.false_or] at hm
        rw [e3]
        exact ⟨⟨rfl, k + 1, rfl, hlt, hm⟩, by simp only [Int.toNat_natCast]; omega⟩
    · obtain rfl : k = calls.length := by
        have : ¬ ((k : Int) < calls.length) := by simpa using hc2
        omega
      refine ⟨?_, rfl⟩
      rw [hm]; simp [hle]

theorem alive_spec (h : SatL H F) (k : ∀ H', SatL H' F → K (.bool true) H') : CallF Try.prog 7 #[] H K := by
  refine alive.call ?_
  unfold alive.code
  refine New_spec h (fun hc => absurd hc (by omega)) fun hb mb H1 ok _ h1 => ⟨_, _, rfl, fun hc => by simp at hc, fun _ => ?_⟩
  have h2 : SatL _ (cellsA H1.size [I64 7, I64 8] 2 :: _) := h1.push _
  refine Offer_spec' (s := ⟨5, 4, []⟩) (s' := ⟨5, 4, [(6, 7), (7, 8)]⟩) (items := [7, 8]) (ready := []) (refused := 0) rfl (h2.ordt [1, 2, 0] 3 (by decide) (by decide)) ok (by decide) (fun H h => h.ce_rd 0 rfl) (by decide) fun a1 c1 H2 ok2 _ _ h3 => ⟨_, _, _, _, rfl, ?_⟩
  refine Clone_spec (h3.ordt [1, 2, 0, 3] 4 (by decide) (by decide)) fun hb' mb' H3 h4 => ⟨_, rfl, ?_⟩
  have h5 : SatL _ (cellsA H3.size [I64 6, I64 99] 2 :: _) := h4.push _
  refine Offer_spec' (s := ⟨5, 4, [(6, 7), (7, 8)]⟩) (s' := ⟨8, 4, []⟩) (items := [6, 99]) (ready := [6, 7, 8]) (refused := 0) rfl (h5.ordt [3, 4, 0, 1, 2, 5] 6 (by decide) (by decide)) ok2 (by decide) (fun H h => h.ce_rd 0 rfl) (by decide) fun a3 c3 H4 ok4 _ _ h6 => ⟨_, _, _, _, rfl, ?_⟩
  have h7 : SatL _ (cellsA H4.size [I64 1] 2 :: _) := h6.push _
  refine Offer_spec' (s := ⟨8, 4, []⟩) (s' := ⟨8, 4, []⟩) (items := [1]) (ready := []) (refused := 1) rfl (h7.ordt [2, 3, 0, 1, 5, 6] 7 (by decide) (by decide)) ok4 (by decide) (fun H h => h.ce_rd 0 rfl) (by decide) fun a4 c4 H5 ok5 _ _ h8 => ⟨_, _, _, _, rfl, fun hc => by simp at hc, fun _ => ?_⟩
  have hrow : ∀ p ∈ ([(6, 7), (7, 8)] : RowL), wf64 p.1 := by intro p hp; simp at hp; rcases hp with rfl | rfl <;> simp [wf64]
  refine Waiting_spec (next := 5) (most := 4) (rows := [(6, 7), (7, 8)]) (h8.ordt [5, 6, 1, 2, 4] 7 (by decide) (by decide)) (by simp [Rising]) hrow (by decide) fun a5 c5 H6 h9 _ => ⟨_, _, _, rfl, ?_⟩
  refine Drain_spec (h9.ordt [1, 2, 0, 3, 4, 5] 6 (by decide) (by decide)) (by simp [Rising]) hrow (by decide) fun a6 c6 H7 h10 => ⟨_, _, _, rfl, ?_⟩
  intro Jn hJ
  have h11 : SatL _ (cellsA _ [I64 6, I64 7, I64 8] 2 :: _) := h10.push (.cells #[I64 6, I64 7, I64 8] 2)
  have h12 : SatL _ (cellsA _ [I64 6, I64 7] 2 :: _) := h11.push (.cells #[I64 6, I64 7] 2)
  have h13 : SatL _ (cellsA _ [I64 7, I64 8] 2 :: _) := h12.push (.cells #[I64 7, I64 8] 2)
  refine ⟨fun _ => ⟨_, SameLongs_spec (xs := [6, 7, 8]) (ys := [6, 7, 8]) (h11.sl_rd 7 rfl) (h11.ce_rd 0 rfl) (by decide), _, fun _ => Next_spec h11 5 rfl, _, fun _ => Next_spec h11 2 rfl, fun _ => ?_, fun hn => absurd (by decide) hn⟩, fun hn => absurd (by decide) hn⟩
  refine ⟨_, SameLongs_spec (xs := [6, 7]) (ys := [6, 7]) (h12.sl_rd 5 rfl) (h12.ce_rd 0 rfl) (by decide), fun _ => ?_, fun hn => absurd (by decide) hn⟩
  refine ⟨_, SameLongs_spec (xs := [7, 8]) (ys := [7, 8]) (h13.sl_rd 3 rfl) (h13.ce_rd 0 rfl) (by decide), fun _ => ?_, fun hn => absurd (by decide) hn⟩
  refine Waiting_spec (rows := []) (h13.ordt [4, 5, 11] 12 (by decide) (by decide)) (by simp [Rising]) (by simp) (by decide) fun a7 c7 H8 h14 _ => ⟨_, _, _, rfl, hJ _ _ ?_⟩
  exact k _ h14.tl.tl.tl.tl
end
end Go.Proofs.Ytfgabhogcbmhoaa
