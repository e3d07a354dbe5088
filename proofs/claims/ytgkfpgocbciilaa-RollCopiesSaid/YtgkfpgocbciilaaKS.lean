/-
  slices.Sorted(maps.Keys(m)) and maps.Clone(m) at this program.
-/
import Derived.Test.YtgkfpgocbciilaaKL
import Derived.Test.YtgkfpgocbciilaaLib
import Derived.Test.YtgkfpgocbciilaaT1
set_option linter.unusedVariables false
set_option linter.unusedSimpArgs false
namespace Go.Proofs.Ytgkfpgocbciilaa
open Go Go.Nm Go.Proofs Go.RowKit Go.Maps Go.Sort Go.Shelf

theorem fin_of_calls {P : Program} {f : FuncId} {args : Array Value} {w : World} {K : Value → Heap → Prop} {Q : Ending → World → Prop} (h : Calls P f args w Q) (hk : ∀ e w', Q e w' → ∃ v, e = .returned v ∧ Go.Nm.Rest w w' ∧ K v w'.heap) : Calls P f args w (Fin w K) :=
  h.mono fun e w' hq => by
    obtain ⟨v, rfl, h1, h2⟩ := hk e w' hq
    exact ⟨h1, h2⟩

theorem sortsA (m : Nat) : AnyZI.SortsIn Try.prog Try.sortedA_ren Fence.wide m :=
  ⟨fun blk off cap ss W hH hblk hsz => callsIn_wide.2 (AnyM.slices_Sort_int Try.sortA blk off cap ss W hH hblk hsz),
   fun p cap W => callsIn_wide.2 (AnyM.slices_Sort_int_none Try.sortA p cap W)⟩

theorem Keys_call {H : Heap} {mb : Option Nat} {K : Value → Heap → Prop} (k : K (.func (.func 30) #[] #[.pointer (some ⟨H.size, 0, none⟩)]) (H.push (.cells #[.map mb] 56))) :
    CallF Try.prog 26 #[.map mb] H K := by
  intro w hw
  subst hw
  have h := (callsIn_wide (n := 5)).1 (AnyZI.keys_in Try.keysA Fence.wide 5 trivial rfl mb w)
  refine fin_of_calls h ?_
  rintro e w' ⟨rfl, rfl⟩
  exact ⟨_, rfl, ⟨rfl, rfl, rfl⟩, k⟩

set_option maxHeartbeats 1000000 in
theorem Sorted_call {α : Type} {venc : α → Value} {H : Heap} {L : List Assn} {r : Nat} {m : List (Int × α)} (h : SatL H L) (i : Nat) (hA : nth i L = mapA (Value.int .i64) venc r m) (hr : ∀ x ∈ keysOf m, wf64 x) (hsz : m.length ≤ 17592186044416) {K : Value → Heap → Prop}
    (k : ∀ a c H', SatL H' (slA 2 1 a m.length c ((sortI (keysOf m)).map (Value.int .i64)) :: L) → Grow H H' → K (.slice a m.length c) H') :
    CallF Try.prog 25 #[.func (.func 30) #[] #[.pointer (some ⟨H.size, 0, none⟩)]] (H.push (.cells #[.map (some r)] 56)) K := by
  intro w hw
  have g : Grow H w.heap := by rw [hw]; exact Grow.push _ _
  have h2 : SatL w.heap L := h.grow g
  have h3 := h2.foc i
  rw [hA] at h3
  obtain ⟨D0, hown, hperm, hsize⟩ := own_of_map (k := 2) Try.underlying2 h3 hr (by unfold maxLen; omega)
  have hcell : w.cell? ⟨H.size, 0, none⟩ = some (.map (some r)) := by
    simp [World.cell?, hw]
  have hseq : SeqGives Fence.wide 2 Try.prog 30 #[.pointer (some ⟨H.size, 0, none⟩)] encZ (fun ss => ss.Perm (intKeys D0)) (Maps.size D0) w :=
    AnyZI.keys_gives (ρ := Try.keysA_ren) { Try.keysA with } Fence.wide _ trivial rfl (by omega) H.size r m.length D0 w (by rw [hw]; simp) hcell hown
  have cS := AnyZI.sorted_in Try.sortedA Fence.wide 5 trivial trivial trivial trivial rfl (by omega) (sortsA _) (enters_of Try.func29 (by kernel_rfl) rfl) 30 #[.pointer (some ⟨H.size, 0, none⟩)] trivial (enters_of Try.func30 (by kernel_rfl) rfl) _ _ (by unfold maxLen; omega) (by omega) w hseq
  change CallsIn _ _ Try.prog 25 _ _ _ at cS
  refine fin_of_calls ((callsIn_wide (n := 5)).1 cS) ?_
  rintro e w' ⟨v, ss, rfl, hS, hrow, hnil, hb⟩
  obtain ⟨a, c, rfl, h4⟩ := h2.of_row hb hrow
  have hp : ss.Perm (keysOf m) := hS.trans hperm
  have hl : ss.length = m.length := by rw [hp.length_eq]; simp [keysOf]
  have he : ss.mergeSort (fun x y => decide (x ≤ y)) = sortI (keysOf m) := sortI_perm hp
  rw [he, hl] at h4
  refine ⟨_, rfl, rest_of_below hb, ?_⟩
  rw [hl]
  exact k a c _ h4 (g.trans (grow_of_below hb))

theorem Clone_call {α : Type} {venc : α → Value} {H : Heap} {L : List Assn} {r : Nat} {m : List (Int × α)} (h : SatL H L) (i : Nat) (hA : nth i L = mapA (Value.int .i64) venc r m) {K : Value → Heap → Prop}
    (k : ∀ H', SatL H' (mapA (Value.int .i64) venc H.size m :: L) → Grow H H' → K (.map (some H.size)) H') :
    CallF Try.prog 24 #[.map (some r)] H K := by
  intro w hw
  subst hw
  have h3 := h.foc i
  rw [hA] at h3
  obtain ⟨hn, es, clock, h4, h5, h6, h7⟩ := mapA_open h3
  have hc := AnyW.maps_Clone Try.cloneA r es clock w h7.get
  refine fin_of_calls hc ?_
  rintro e w' ⟨rfl, rfl⟩
  refine ⟨_, rfl, ⟨rfl, rfl, rfl⟩, k _ ?_ (Grow.push _ _)⟩
  exact (h.push (.map es clock)).mono fun p hp => ⟨hn, es, clock, h4, h5, h6, hp⟩
end Go.Proofs.Ytgkfpgocbciilaa
