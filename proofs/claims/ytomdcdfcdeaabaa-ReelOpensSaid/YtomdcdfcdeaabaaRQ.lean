/-
  ReelBytes.
-/
import Derived.Test.YtomdcdfcdeaabaaRP
set_option linter.unusedVariables false
set_option linter.unusedSimpArgs false
namespace Go.Proofs.Ytomdcdfcdeaabaa
open Go Go.Nm Go.Proofs
section
variable {F L : List Assn} {H : Heap} {K : Value → Heap → Prop}
def bytesR (kind : Int) (bs : List Int) : List Int := if bytesE kind bs.length = 0 then recB ⟨kind, bs⟩ else []
theorem rowsR_is : ∀ {rs : List Ry} {H : Heap} {F : List Assn}, SatL H (rowsR rs :: F) → ∀ r ∈ rs, r.y.a = none ∨ ∃ b o, r.y.a = some ⟨b, o, none⟩
  | [], _, _, _, r, hr => by cases hr
  | x :: rs, H, F, h, r, hr => by
    have h2 : SatL H (rowY x.y :: rowsR rs :: F) := satL_sep.1 h
    rcases List.mem_cons.1 hr with rfl | hr
    · exact slA_is h2
    · exact rowsR_is h2.tl r hr
theorem Bytes_any {kind : Int} {a : Option Addr} {c : Nat} {bs : List Int} (h : SatL H F) (hF : ∀ H, SatL H F → rdS H a (bs.map U8)) (hA : a = none ∨ ∃ b o, a = some ⟨b, o, none⟩) (hb : isBytes bs) (hl : bs.length ≤ 1099511627776)
    (k : ∀ a' c' H', SatL H' (slA 5 1 a' (bytesR kind bs).length c' ((bytesR kind bs).map U8) :: F) → K (.tuple #[.slice a' (bytesR kind bs).length c', .int .i64 (bytesE kind bs.length)]) H') :
    CallF Try.prog 29 #[.agg #[.int .i64 kind, .slice a bs.length c]] H K := by
  refine Bytes_spec h hF hA hb hl (fun a' c' H' he h => ?_) fun H' he h => ?_
  · have := k a' c' H'
    unfold bytesR at this
    rw [if_pos he, he] at this
    exact this h
  · have := k none 0 H'
    unfold bytesR at this
    rw [if_neg he] at this
    exact this (h.sl_nil 5 1)
theorem RBytes_any {kind : Int} {a : Option Addr} {c : Nat} {bs : List Int} (h : SatL H F) (hF : ∀ H, SatL H F → rdS H a (bs.map U8)) (hb : isBytes bs) (hl : bs.length ≤ 1099511627776)
    (k : ∀ a' c' H', SatL H' (slA 5 1 a' (bytesR kind bs).length c' ((bytesR kind bs).map U8) :: F) → K (.tuple #[.slice a' (bytesR kind bs).length c', .int .i64 (bytesE kind bs.length)]) H') :
    CallF Try.prog 31 #[.int .i64 kind, .slice a bs.length c] H K := by
  refine RBytes_spec h hF hb hl (fun a' c' H' he h => ?_) fun H' he h => ?_
  · have := k a' c' H'
    unfold bytesR at this
    rw [if_pos he, he] at this
    exact this h
  · have := k none 0 H'
    unfold bytesR at this
    rw [if_neg he] at this
    exact this (h.sl_nil 5 1)
theorem bytesR_len {kind : Int} {bs : List Int} (hb : isBytes bs) : (bytesR kind bs).length ≤ 300000 := by
  unfold bytesR
  split
  · rename_i h
    have := recB_len (bytesE_ok hb h)
    omega
  · simp
end
theorem ReelBytes_true {H0 : Heap} {da ba : Option Addr} {dc bc : Nat} {d bs : List Int} {kind : Int} (hd : rdS H0 da (d.map U8)) (hdb : isBytes d) (hbc : bs.length ≤ bc) (hbr : rdS H0 ba (bs.map U8)) (hbb : isBytes bs) :
    CallF Try.prog 7 #[.int .i64 kind, .slice da d.length dc, .slice ba bs.length bc] H0 fun v H' => v = .bool true ∧ Grow H0 H' := by
  refine ReelBytes.call ?_
  unfold ReelBytes.code
  refine alive28_spec (sat0 H0) fun H1 h => ⟨_, rfl, (fun hf => by cases hf), fun _ => ⟨fun _ => ⟨rfl, h.old_grow 0 rfl⟩, fun hx => ?_⟩⟩
  have hl : d.length ≤ 3000 ∧ bs.length ≤ 3000 := by simp at hx; omega
  have rdd : ∀ H, SatL H [old H0] → rdS H da (d.map U8) := fun H h => h.old_rd 0 rfl hd
  refine CopyBytes_own h rdd (by omega) fun a1 c1 H2 h => ⟨_, _, _, rfl, ?_⟩
  have hbl := bytesR_len (kind := kind) hdb
  refine Bytes_any h (fun H h => h.sl_rd 0 rfl) (slA_is h) hdb (by omega) fun a2 c2 H3 h => ⟨_, _, _, _, rfl, ?_⟩
  refine RBytes_any h (fun H h => h.old_rd 2 rfl hd) hdb (by omega) fun a3 c3 H4 h => ⟨_, _, _, _, rfl, ?_⟩
  refine CopyBytes_own h (fun H h => h.old_rd 3 rfl hbr) (by omega) fun a4 c4 H5 h => ⟨_, _, _, rfl, ?_⟩
  refine scan_spec h (fun H h => h.sl_rd 0 rfl) hbb (by omega) fun rs a5 c5 H6 hrs h => ⟨_, _, _, _, rfl, ?_⟩
  refine rscan_spec h (fun H h => h.old_rd 6 rfl hbr) hbb (by omega) hbc fun qs a6 c6 H7 hqs h => ⟨_, _, _, _, rfl, fun Jn hJ => ?_⟩
  obtain ⟨s1, s2, s3⟩ := scanM_ok (Nat.le_refl _) hbb
  have hsl := scanM_len hbb
  have hrl : rs.length ≤ bs.length := by rw [← List.length_map (f := Ry.rc), hrs]; exact hsl
  have hql : qs.length ≤ bs.length := by rw [← List.length_map (f := Ry.rc), hqs]; exact hsl
  have hrok : ∀ r ∈ rs, r.rc.ok := fun r hr => s1 _ (by rw [← hrs]; exact List.mem_map.2 ⟨r, hr, rfl⟩)
  have q := SameBytes_spec (c := c2) (d := c3) (h.sl_rd 6 rfl) (h.sl_rd 5 rfl) (by omega)
  rw [decide_eq_true rfl] at q
  refine ⟨_, fun _ => q, fun _ => ?_, fun hf => absurd (by simp) hf⟩
  refine of_spec h (fun H h => h.sl_rd 2 rfl) (by omega) fun a7 c7 H8 h => ⟨_, _, _, rfl, ?_⟩
  have hrr := rowsR_rd (h.ordt [4] 10 (by decide) (by decide))
  have q2 := Same_spec (c := c7) (d := c6) (h.sl_rd 0 rfl) (h.sl_rd 1 rfl) hrr (rowsR_rd (h.ordt [2] 10 (by decide) (by decide))) (by omega) fun r hr => by
    have := (hrok r hr).len
    unfold Ry.rc at this
    dsimp only at this
    omega
  rw [decide_eq_true (by rw [hrs, hqs])] at q2
  refine ⟨_, q2, hJ _ _ ?_⟩
  unfold ReelBytes.r2
  refine ⟨(fun hf => by cases hf), fun _ => ?_⟩
  have h : SatL H8 (slA 52 2 a5 rs.length c5 (flat encR rs) :: rowsR rs :: old H0 :: []) := h.ordt [3, 4, 9] 10 (by decide) (by decide)
  refine h.al fun b H9 h => ?_
  have h1 := SatL.sl_pt (cs := []) h 1 0 rfl
  have hbr2 : ∀ r ∈ rs, isBytes r.y.bs := fun r hr => (hrok r hr).by'
  have hpre : ∀ j, (((rs.take j).map Ry.rc).flatMap recB).length ≤ bs.length := by
    intro j
    have e1 : ((rs.map Ry.rc).flatMap recB).length ≤ bs.length := by rw [hrs, s3, List.length_take]; omega
    rw [List.map_take]
    exact Nat.le_trans (flatMap_take_le _ _ _) e1
  refine ⟨fun oa on oc i H' => ∃ j : Nat, i = j ∧ j ≤ rs.length ∧ on = (((rs.take j).map Ry.rc).flatMap recB).length ∧ SatL H' (slA 5 1 oa (((rs.take j).map Ry.rc).flatMap recB).length oc ((((rs.take j).map Ry.rc).flatMap recB).map U8) :: slA 52 2 a5 rs.length c5 (flat encR rs) :: rowsR rs :: old H0 :: []),
    fun _ _ _ i _ => rs.length - i.toNat, ⟨0, rfl, Nat.zero_le _, rfl, h1⟩, ?_⟩
  rintro oa on oc i H10 ⟨j, rfl, hj, rfl, h⟩
  unfold ReelBytes.l1
  refine ⟨fun hx => ?_, fun hx => ?_⟩
  · have hlt : j < rs.length := by simpa using hx
    have hr := h.sl_rd 1 rfl
    have hm := List.getElem_mem hlt
    refine ⟨⟨by omega, by omega⟩, _, _, hr.some encR_len (by omega) hlt, _, _, _, _, hr.els encR_len hlt, ?_⟩
    have hry : ∀ H, SatL H (slA 5 1 oa (((rs.take j).map Ry.rc).flatMap recB).length oc ((((rs.take j).map Ry.rc).flatMap recB).map U8) :: slA 52 2 a5 rs.length c5 (flat encR rs) :: rowsR rs :: old H0 :: []) → rdS H rs[j].y.a (rs[j].y.bs.map U8) := fun H h => rowsR_rd h.tl.tl _ hm
    have hylen : rs[j].y.bs.length ≤ 262144 := (hrok _ hm).len
    have he : bytesE rs[j].kind rs[j].y.bs.length = 0 := bytesE_of (hrok _ hm)
    have hAj : rs[j].y.a = none ∨ ∃ b o, rs[j].y.a = some ⟨b, o, none⟩ := rowsR_is h.tl.tl _ hm
    refine Bytes_any h hry hAj (hbr2 _ hm) (by omega) fun a8 c8 H11 h => ⟨_, _, _, _, rfl, (fun hf => by rw [he] at hf; cases hf), fun _ => ?_⟩
    have eR : bytesR rs[j].kind rs[j].y.bs = recB rs[j].rc := by unfold bytesR; rw [if_pos he]; rfl
    rw [eR] at h ⊢
    have hp1 := hpre (j + 1)
    have efl : ((rs.take (j + 1)).map Ry.rc).flatMap recB = ((rs.take j).map Ry.rc).flatMap recB ++ recB rs[j].rc := by
      rw [List.take_succ_eq_append_getElem hlt, List.map_append, List.flatMap_append]
      simp
    rw [efl, List.length_append] at hp1
    refine SatL.append (m := (recB rs[j].rc).length) (ws := (recB rs[j].rc).map U8) sl32 h 1 rfl (h.sl_rd 0 rfl) (by simp) (plain_map (fun _ => rfl) _) (by omega) (by omega) fun a9 c9 H12 h => ⟨_, _, _, rfl, ?_⟩
    rw [w64 (x := (j : Int) + 1) (by omega) (by omega)]
    refine ⟨⟨j + 1, rfl, hlt, by rw [efl, List.length_append], ?_⟩, by simp only [Int.toNat_natCast]; omega⟩
    rw [efl]
    exact slA_cat rfl (h.ordt [1, 2, 3] 4 (by decide) (by decide))
  · have hj2 : j = rs.length := by simp at hx; omega
    subst hj2
    rw [List.take_length, hrs, s3] at h ⊢
    have hbr3 : rdS H10 (slB ba 0 bc 1) ((bs.take (scanM bs).2).map U8) := by
      have := ((h.old_rd 3 rfl hbr).take (scanM bs).2).sb0 (m := bc)
      rwa [← List.map_take] at this
    have q3 := SameBytes_spec (c := oc) (d := bc) (h.sl_rd 0 rfl) hbr3 (by rw [List.length_take]; omega)
    rw [decide_eq_true rfl] at q3
    have e5 : (bs.take (scanM bs).2).length = (scanM bs).2 := by rw [List.length_take]; omega
    rw [e5] at q3 ⊢
    exact ⟨⟨by omega, by omega, by omega⟩, _, q3, rfl, h.old_grow 3 rfl⟩
theorem reads_bytesC {H : Type} {enc : TypeId × Value → H} {W : World} {cs : List Value} (h : Reads enc Try.prog W 32 cs) :
    ∃ a c bs, cs = [.slice a (List.length bs) c] ∧ bs.length ≤ c ∧ rdS W.heap a (bs.map U8) ∧ isBytes bs := by
  obtain ⟨a, n, c, e1, h1, h2, _⟩ := reads_slice Try.underlying32 (by rw [show Try.prog.cellsOf 5 = 1 by kernel_rfl]; decide) h
  obtain ⟨a', c', bs, e2, h3, h4, h5⟩ := reads_bytes h
  rw [e1] at e2
  simp only [List.cons.injEq, Value.slice.injEq, and_true] at e2
  obtain ⟨rfl, rfl, rfl⟩ := e2
  exact ⟨a, c, bs, e1, h1, h4, fun x hx => by have := h5 x hx; omega⟩
end Go.Proofs.Ytomdcdfcdeaabaa
