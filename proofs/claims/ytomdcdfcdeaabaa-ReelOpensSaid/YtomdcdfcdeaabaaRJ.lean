/-
  The records at the beginning of bytes: both sides.
-/
import Derived.Test.YtomdcdfcdeaabaaRI
set_option linter.unusedVariables false
set_option linter.unusedSimpArgs false
namespace Go.Proofs.Ytomdcdfcdeaabaa
open Go Go.Nm Go.Proofs
section
variable {F L : List Assn} {H : Heap} {K : Value → Heap → Prop}

theorem bytes_of_str {t : List Int} (hb : isBytes t) (h : SatL H L) (k : ∀ a c H', SatL H' (slA 5 1 a t.length c (t.map U8) :: L) → K (.slice a t.length c) H') :
    RunW Try.prog (convert 9 32 (.string (strB t))) H K := by
  intro w hw
  subst hw
  have hs : (strB t).size = t.length := strOfNums_size t
  have hr := run_bytes_of_string w 9 32 5 (strB t) (P := Try.prog) (by kernel_rfl) (by kernel_rfl) (by kernel_rfl)
  rw [hs] at hr
  have hcap := grownCap_ge w t.length 0 5
  obtain ⟨cap, hcp⟩ : ∃ cap, grownCap w t.length 0 5 = cap := ⟨_, rfl⟩
  rw [hcp] at hr hcap
  have hrow : (bytesRow (strB t) cap).toList = t.map U8 ++ List.replicate (cap - t.length) (U8 0) := by
    have e1 : (bytesRow (strB t) cap).toList = (strB t).data.toList.map (fun b => U8 (b.toNat : Int)) ++ List.replicate (cap - (strB t).size) (U8 0) := by
      unfold bytesRow
      simp only [Array.toList_append, Array.toList_map, Array.toList_replicate]
    have e2 : (strB t).data.toList.map (fun b => U8 (b.toNat : Int)) = t.map U8 := by
      have : (strB t).data.toList = t.map fun n => UInt8.ofNat n.toNat := strOfNums_data t
      rw [this, List.map_map]
      refine List.ext_getElem (by simp) fun i h1 h2 => ?_
      simp only [List.getElem_map, Function.comp_apply]
      rw [u8_bytes hb i (by simpa using h2)]
    rw [e1, e2, hs]
  have hrow2 : bytesRow (strB t) cap = (t.map U8 ++ List.replicate (cap - t.length) (U8 0)).toArray := by
    have := congrArg List.toArray hrow
    rwa [Array.toArray_toList] at this
  refine ⟨_, _, hr, ⟨rfl, rfl, rfl⟩, k _ _ _ ?_⟩
  rw [hrow2]
  have hp : SatL _ _ := h.push (.cells (t.map U8 ++ List.replicate (cap - t.length) (U8 0)).toArray 5 ((t.map U8 ++ List.replicate (cap - t.length) (U8 0)).toArray.size, (t.map U8 ++ List.replicate (cap - t.length) (U8 0)).toArray.size + 1))
  generalize hC : t.map U8 ++ List.replicate (cap - t.length) (U8 0) = C at hp
  have hCl : C.length = cap := by rw [← hC]; simp; omega
  refine SatL.mono hp fun p hp => ⟨by simp, .inr ⟨_, [], List.replicate (cap - t.length) (U8 0), 5, (C.toArray.size, C.toArray.size + 1), rfl, hcap, by simp, fun _ i h1 h2 hh => ?_, ?_⟩⟩
  · have h3 := hh.1
    simp only [List.size_toArray, hCl] at h3
    simp only [List.length_nil] at h2
    omega
  · rw [List.nil_append, hC]
    exact hp

theorem scan_spec {a : Option Addr} {c : Nat} {bs : List Int} (h : SatL H F) (hF : ∀ H, SatL H F → rdS H a (bs.map U8)) (hb : isBytes bs) (hl : bs.length ≤ 1099511627776)
    (k : ∀ (rs : List Ry) a' c' H', rs.map Ry.rc = (scanM bs).1 → SatL H' (slA 52 2 a' rs.length c' (flat encR rs) :: rowsR rs :: F) → K (.tuple #[.slice a' rs.length c', .int .i64 (scanM bs).2]) H') :
    CallF Try.prog 32 #[.slice a bs.length c] H K := by
  refine reel_Scan.call ?_
  unfold reel_Scan.code
  refine CNew_spec h hF hl fun rb H1 h => ⟨_, rfl, fun Jn hJ => ?_⟩
  have fin : ∀ la lc (rs : List Ry) (w : Nat) s t H', oneM t = none → scanM bs = (rs.map Ry.rc ++ (scanM t).1, w + (scanM t).2) → SatL H' (crdA rb s :: slA 52 2 la rs.length lc (flat encR rs) :: rowsR rs :: F) → Jn la rs.length lc w H' := by
    intro la lc rs w s t H' hn he h'
    refine hJ _ _ _ _ _ ?_
    unfold reel_Scan.r1
    rw [scanM_none hn, List.append_nil, Nat.add_zero] at he
    have := k rs la lc H' (by rw [he]) h'.tl
    rwa [he] at this
  refine ⟨fun la ln lc used H' => ∃ (rs : List Ry) (w : Nat), ln = rs.length ∧ used = w ∧ w ≤ bs.length ∧ rs.length ≤ w ∧ scanM bs = (rs.map Ry.rc ++ (scanM (bs.drop w)).1, w + (scanM (bs.drop w)).2) ∧
      SatL H' (crdA rb ⟨0, bs.drop w⟩ :: slA 52 2 la rs.length lc (flat encR rs) :: rowsR rs :: F), fun _ _ _ used _ => bs.length - used.toNat, ⟨[], 0, rfl, rfl, Nat.zero_le _, Nat.zero_le _, by simp, ?_⟩, ?_⟩
  · have h2 : SatL H1 (rowsR [] :: crdA rb ⟨0, bs⟩ :: F) := satL_emp.2 h
    have h3 := (h2.sl_nil 52 2).ordt [2, 0, 1] 3 (by decide) (by decide)
    exact h3
  rintro la ln lc used H2 ⟨rs, w, rfl, rfl, hw, hrw, he, h⟩
  have hdb : isBytes (bs.drop w) := isBytes_drop _ hb
  unfold reel_Scan.l2
  refine ⟨_, LeftX_spec h, fun hx => ?_, fun hx => ?_⟩
  · refine Text_spec h hdb (by simp only [List.length_drop]; omega) (by unfold wf64; omega) fun H3 h => ⟨_, rfl, _, ErrX_spec h, fun hx => ?_, fun hx => ?_⟩
    · rcases one_text hdb with ⟨⟨e, he1, he2⟩, hn⟩ | ⟨kk, n, ht, hle, hk0, ho⟩
      · rw [he2] at h
        exact fin _ _ _ _ _ _ _ hn he h
      · rw [ht] at hx
        simp at hx
    · rcases one_text hdb with ⟨⟨e, he1, he2⟩, hn⟩ | ⟨kk, n, ht, hle, hk0, ho⟩
      · rw [he2] at hx
        simp [he1] at hx
      · rw [ht] at h ⊢
        dsimp only at h ⊢
        obtain ⟨t, htx⟩ : ∃ t, ((bs.drop w).drop kk).take n = t := ⟨_, rfl⟩
        rw [htx] at ho ⊢
        have htb : isBytes t := by rw [← htx]; exact isBytes_take _ (isBytes_drop _ hdb)
        have htl : t.length ≤ bs.length := by rw [← htx]; simp only [List.length_take, List.length_drop]; omega
        rw [List.length_drop] at hle
        refine bytes_of_str htb h fun a4 c4 H4 h => ⟨_, _, _, rfl, ?_⟩
        have hnc := h.sl_nc 0 rfl
        refine record_spec h (fun H h => h.sl_rd 0 rfl) htb (by omega) hnc (fun r H5 hr h => ⟨_, _, _, _, _, rfl, ?_⟩) fun H5 hr h => ⟨_, _, _, _, _, rfl, ?_⟩
        · refine h.al fun b6 H6 h => ?_
          refine h.st 0 rfl rfl fun H7 h => ⟨(fun hf => by cases hf), fun _ => ⟨_, _, _, _, h.rds 0 rfl rfl, ?_⟩⟩
          rw [hr, Option.map_some] at ho
          rw [List.drop_drop] at h
          rintro _ _ rfl rfl
          refine h.append1 sl54 4 rfl (by rfl) (by rfl) (by omega) (by omega) fun a8 c8 H8 h => ⟨_, _, _, rfl, ?_⟩
          have h := h.ordt [3, 4, 5, 1] 6 (by decide) (by decide)
          refine ⟨_, LeftX_spec h, ?_⟩
          have e1 : IntKind.i64.wrap ((bs.length : Int) - ((bs.drop (w + (kk + n))).length : Int)) = ((w + (kk + n) : Nat) : Int) := by
            rw [List.length_drop, w64 (by omega) (by omega)]
            omega
          dsimp only
          rw [e1]
          refine ⟨⟨rs ++ [r], w + (kk + n), by simp, rfl, by omega, by rw [List.length_append, List.length_singleton]; omega, ?_, ?_⟩, by simp only [Int.toNat_natCast]; omega⟩
          · rw [he, scanM_some hdb ho, List.drop_drop]
            simp [Nat.add_assoc]
          · rw [rowsR_append, rowsR_one, flat_append, flat_one, List.length_append, List.length_singleton]
            have h2 := h.ordt [0, 1, 2, 3] 4 (by decide) (by decide)
            have h3 : SatL H8 (slA 52 2 a8 (rs.length + 1) c8 (flat encR rs ++ encR r) :: crdA rb ⟨0, bs.drop (w + (kk + n))⟩ :: rowsR rs :: rowY r.y :: F) := h.ordt [1, 0, 2, 3] 4 (by decide) (by decide)
            have h4 := h3.ordt [2, 3, 1, 0] 4 (by decide) (by decide)
            have h5 := satL_sep.2 h4
            exact h5.ordt [1, 2, 0] 3 (by decide) (by decide)
        · refine h.al fun b6 H6 h => ?_
          refine h.st 0 rfl rfl fun H7 h => ⟨fun _ => ?_, (fun hf => by cases hf)⟩
          rw [hr, Option.map_none] at ho
          exact fin _ _ _ _ _ _ _ ho he (h.ordt [2, 3, 4] 5 (by decide) (by decide))
  · have hd : bs.drop w = [] := by
      simp at hx
      exact List.drop_eq_nil_of_le (by omega)
    exact fin _ _ _ _ _ _ _ (by rw [hd]; rfl) he h
end
end Go.Proofs.Ytomdcdfcdeaabaa
