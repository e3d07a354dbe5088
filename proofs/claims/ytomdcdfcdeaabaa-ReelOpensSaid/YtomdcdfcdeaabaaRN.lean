/-
  A reel is opened: both sides.
-/
import Derived.Test.YtomdcdfcdeaabaaRM
set_option linter.unusedVariables false
set_option linter.unusedSimpArgs false
namespace Go.Proofs.Ytomdcdfcdeaabaa
open Go Go.Nm Go.Proofs
section
variable {F L : List Assn} {H : Heap} {K : Value → Heap → Prop} {rb db pb : Nat} {rows : DR} {syn : Nat} {s : RL} {most : Int}
abbrev opS (most : Int) (rows : DR) : RL := ⟨most, segOf rows, (allM rows).length, (allM rows).length⟩
/-- The records of a beginning of the files. -/
def allJ (rows : DR) (j : Nat) : List Rc := ((filesOf rows).take j).flatMap fun f => (scanM (bytesOf f rows)).1
theorem allJ_le (h : RowsOk rows) (j : Nat) : (allJ rows j).length ≤ rows.length := Nat.le_trans (flatMap_take_le _ _ _) (allM_len h)
theorem allJ_succ {j : Nat} (h : j < (filesOf rows).length) : allJ rows (j + 1) = allJ rows j ++ (scanM (bytesOf (filesOf rows)[j] rows)).1 := flatMap_take_succ _ h
theorem allJ_all : allJ rows (filesOf rows).length = allM rows := by unfold allJ allM; rw [List.take_length]

theorem rowsR_join {a b : List Ry} (h : SatL H (rowsR a :: rowsR b :: F)) : SatL H (rowsR (a ++ b) :: F) := by rw [rowsR_append]; exact satL_sep.2 h
theorem encR_plain (r : Ry) : plainCells (encR r) = true := rfl

theorem Open_spec (ok : RowsOk rows) (hB : rows.length ≤ 1099511627776) (h : SatL H (diskX db rows syn :: F))
    (k1 : openE most rows = 0 → ∀ (rs : List Ry) a c rb H', rs.map Ry.rc = allM rows → SatL H' (reelA rb db (opS most rows) :: slA 52 2 a rs.length c (flat encR rs) :: rowsR rs :: diskX db rows syn :: F) →
      K (.tuple #[.pointer (some ⟨rb, 0, none⟩), .slice a rs.length c, .int .i64 0]) H')
    (k2 : openE most rows ≠ 0 → ∀ H', SatL H' (diskX db rows syn :: F) → K (.tuple #[.pointer none, .slice none 0 0, .int .i64 (openE most rows)]) H') :
    CallF Try.prog 37 #[.pointer (some ⟨db, 0, none⟩), .int .i64 most] H K := by
  refine reel_Open.call ?_
  unfold reel_Open.code
  refine ⟨fun hx => ?_, fun hx => ?_⟩
  · have hm : most < 64 ∨ 1048576 < most := by simpa using hx
    have e : openE most rows = 11 := by unfold openE; rw [if_pos hm]
    have := k2 (by rw [e]; decide) _ h
    rwa [e] at this
  have hm : ¬ (most < 64 ∨ 1048576 < most) := by simp at hx; omega
  have hsg := segOf_in ok
  refine Files_spec hB h fun fa fc H1 h => ⟨_, _, _, rfl, fun Jn hJ => ?_⟩
  have hfl := filesOf_length_le rows
  have rest : ∀ H', SatL H' (slA 3 1 fa (filesOf rows).length fc ((filesOf rows).map I64) :: diskX db rows syn :: F) → Jn (segOf rows) H' := by
    intro H' h
    refine hJ _ _ ?_
    unfold reel_Open.r2
    refine ⟨fun hx => ?_, fun hx => ?_⟩
    · have hlt : 2147483647 < segOf rows := of_decide_eq_true hx
      have e : openE most rows = 20 := by unfold openE; rw [if_neg hm, if_pos hlt]
      have := k2 (by rw [e]; decide) _ h.tl
      rwa [e] at this
    · have hge : ¬ 2147483647 < segOf rows := of_decide_eq_false hx
      have e : openE most rows = 0 := by unfold openE; rw [if_neg hm, if_neg hge]
      refine ⟨fun la ln lc i H' => ∃ (j : Nat) (rs : List Ry), i = j ∧ j ≤ (filesOf rows).length ∧ ln = rs.length ∧ rs.map Ry.rc = allJ rows j ∧
        SatL H' (slA 52 2 la rs.length lc (flat encR rs) :: rowsR rs :: slA 3 1 fa (filesOf rows).length fc ((filesOf rows).map I64) :: diskX db rows syn :: F), fun _ _ _ i _ => (filesOf rows).length - i.toNat, ⟨0, [], rfl, Nat.zero_le _, rfl, rfl, ?_⟩, ?_⟩
      · have h2 : SatL H' (rowsR [] :: slA 3 1 fa (filesOf rows).length fc ((filesOf rows).map I64) :: diskX db rows syn :: F) := satL_emp.2 h
        exact h2.sl_nil 52 2
      rintro la ln lc i H2 ⟨j, rs, rfl, hj, rfl, hrs, h⟩
      have hrl : rs.length ≤ rows.length := by
        have := congrArg List.length hrs
        rw [List.length_map] at this
        rw [this]
        exact allJ_le ok j
      unfold reel_Open.l1
      refine ⟨fun hx => ?_, fun hx => ?_⟩
      · have hlt : j < (filesOf rows).length := by simpa using hx
        have hr := (h.sl_rd 2 rfl).at hlt
        refine ⟨⟨by omega, by omega⟩, _, _, hr.1, _, hr.2, ?_⟩
        have hbl := bytesOf_length_le (filesOf rows)[j] rows
        refine Read_any (F := slA 52 2 la rs.length lc (flat encR rs) :: rowsR rs :: slA 3 1 fa (filesOf rows).length fc ((filesOf rows).map I64) :: F) hB (h.ordt [3, 0, 1, 2] 4 (by decide) (by decide)) fun a3 c3 e3 H3 h => ⟨_, _, _, _, rfl, ?_⟩
        refine scan_spec h (fun H h => h.sl_rd 0 rfl) (ok.bytes _) (by omega) fun qs a4 c4 H4 hqs h => ⟨_, _, _, _, rfl, ?_⟩
        have hsc := scanM_len (ok.bytes (filesOf rows)[j])
        have hnew : (rs ++ qs).map Ry.rc = allJ rows (j + 1) := by rw [allJ_succ hlt, List.map_append, hrs, hqs]
        have htot : rs.length + qs.length ≤ rows.length := by
          have := congrArg List.length hnew
          rw [List.length_map, List.length_append] at this
          rw [this]
          exact allJ_le ok (j + 1)
        refine SatL.append (m := qs.length) (ws := flat encR qs) sl54 h 4 rfl (h.sl_rd 0 rfl) (flat_length encR_len _) (flat_plain encR_plain _) (by omega) (by omega) fun a8 c8 H8 h => ⟨_, _, _, rfl, ?_⟩
        rw [w64 (x := (j : Int) + 1) (by omega) (by omega)]
        refine ⟨⟨j + 1, rs ++ qs, rfl, hlt, by rw [List.length_append], hnew, ?_⟩, by simp only [Int.toNat_natCast]; omega⟩
        have h2 := rowsR_join (h.ordt [5, 1, 4, 6, 3] 7 (by decide) (by decide))
        rw [flat_append, List.length_append]
        exact h2.ordt [1, 0, 2, 3] 4 (by decide) (by decide)
      · have hj2 : j = (filesOf rows).length := by simp at hx; omega
        subst hj2
        rw [allJ_all] at hrs
        refine h.al fun b1 H6 h => ?_
        have hk := k1 e rs la lc b1 H6 hrs
        have hlen : rs.length = (allM rows).length := by rw [← hrs, List.length_map]
        unfold reelA at hk
        dsimp only at hk
        rw [← hlen] at hk
        exact hk (h.ordt [0, 1, 2, 4] 5 (by decide) (by decide))
  refine ⟨fun hx => ?_, fun hx => ?_⟩
  · have hpos : 0 < (filesOf rows).length := by have := of_decide_eq_true hx; omega
    obtain ⟨n, hn⟩ : ∃ n, n + 1 = (filesOf rows).length := ⟨(filesOf rows).length - 1, by omega⟩
    obtain ⟨f, h1, h2, h3⟩ := segOf_cons hn
    have hf := ok.file h3
    have en : IntKind.i64.wrap (((filesOf rows).length : Int) - 1) = (n : Nat) := by rw [w64 (by omega) (by omega)]; omega
    have hlt : n < (filesOf rows).length := by omega
    have hr := (h.sl_rd 0 rfl).at hlt
    rw [en]
    have hg : (filesOf rows)[n] = f := by rw [List.getElem?_eq_getElem hlt] at h1; exact Option.some.inj h1
    rw [hg] at hr
    refine ⟨⟨by omega, by omega⟩, _, _, hr.1, _, hr.2, ?_⟩
    rw [w64 (x := f + 1) (by omega) (by omega), ← h2]
    exact rest _ h
  · have hz : (filesOf rows).length = 0 := by have := of_decide_eq_false hx; omega
    have := rest _ h
    rwa [segOf_nil hz] at this

theorem All_spec (ok : RowsOk rows) (hB : rows.length ≤ 1099511627776) (h : SatL H (refX db rows syn :: F))
    (k : ∀ (rs : List Ry) a c H', rs.map Ry.rc = allM rows → SatL H' (slA 80 2 a rs.length c (flat encR rs) :: rowsR rs :: refX db rows syn :: F) → K (.slice a rs.length c) H') :
    CallF Try.prog 77 #[.pointer (some ⟨db, 0, none⟩)] H K := by
  refine R11_All.call ?_
  unfold R11_All.code
  refine h.al fun b H1 h => ?_
  refine RFiles_spec (F := cellsA b [] 80 :: F) hB (h.ordt [1, 0] 2 (by decide) (by decide)) fun fa fc H1 h => ⟨_, _, _, rfl, ?_⟩
  have hfl := filesOf_length_le rows
  refine ⟨fun la ln lc i H' => ∃ (j : Nat) (rs : List Ry), i = j ∧ j ≤ (filesOf rows).length ∧ ln = rs.length ∧ rs.map Ry.rc = allJ rows j ∧
    SatL H' (slA 80 2 la rs.length lc (flat encR rs) :: rowsR rs :: slA 3 1 fa (filesOf rows).length fc ((filesOf rows).map I64) :: refX db rows syn :: F), fun _ _ _ i _ => (filesOf rows).length - i.toNat, ⟨0, [], rfl, Nat.zero_le _, rfl, rfl, ?_⟩, ?_⟩
  · have h1 := SatL.sl_pt (cs := []) (h.ordt [2, 0, 1] 3 (by decide) (by decide)) 2 0 rfl
    have h2 : SatL _ (rowsR [] :: _ :: _) := satL_emp.2 h1
    exact h2.ordt [1, 0] 2 (by decide) (by decide)
  rintro la ln lc i H2 ⟨j, rs, rfl, hj, rfl, hrs, h⟩
  have hrl : rs.length ≤ rows.length := by
    have := congrArg List.length hrs
    rw [List.length_map] at this
    rw [this]
    exact allJ_le ok j
  unfold R11_All.l1
  refine ⟨fun hx => ?_, fun hx => ?_⟩
  · have hlt : j < (filesOf rows).length := by simpa using hx
    have hr := (h.sl_rd 2 rfl).at hlt
    refine ⟨⟨by omega, by omega⟩, _, _, hr.1, _, hr.2, ?_⟩
    have hbl := bytesOf_length_le (filesOf rows)[j] rows
    refine RRead_spec (F := slA 80 2 la rs.length lc (flat encR rs) :: rowsR rs :: slA 3 1 fa (filesOf rows).length fc ((filesOf rows).map I64) :: F) hB (h.ordt [3, 0, 1, 2] 4 (by decide) (by decide)) fun a3 c3 H3 h => ⟨_, _, _, rfl, ?_⟩
    have hnc := h.sl_nc 0 rfl
    refine rscan_spec h (fun H h => h.sl_rd 0 rfl) (ok.bytes _) (by omega) hnc fun qs a4 c4 H4 hqs h => ⟨_, _, _, _, rfl, ?_⟩
    have hsc := scanM_len (ok.bytes (filesOf rows)[j])
    have hnew : (rs ++ qs).map Ry.rc = allJ rows (j + 1) := by rw [allJ_succ hlt, List.map_append, hrs, hqs]
    have htot : rs.length + qs.length ≤ rows.length := by
      have := congrArg List.length hnew
      rw [List.length_map, List.length_append] at this
      rw [this]
      exact allJ_le ok (j + 1)
    refine SatL.append (m := qs.length) (ws := flat encR qs) sl57 h 4 rfl (h.sl_rd 0 rfl) (flat_length encR_len _) (flat_plain encR_plain _) (by omega) (by omega) fun a8 c8 H8 h => ⟨_, _, _, rfl, ?_⟩
    rw [w64 (x := (j : Int) + 1) (by omega) (by omega)]
    refine ⟨⟨j + 1, rs ++ qs, rfl, hlt, by rw [List.length_append], hnew, ?_⟩, by simp only [Int.toNat_natCast]; omega⟩
    have h2 := rowsR_join (h.ordt [5, 1, 4, 6, 3] 7 (by decide) (by decide))
    rw [flat_append, List.length_append]
    exact h2.ordt [1, 0, 2, 3] 4 (by decide) (by decide)
  · have hj2 : j = (filesOf rows).length := by simp at hx; omega
    subst hj2
    rw [allJ_all] at hrs
    exact k rs la lc _ hrs (h.ordt [0, 1, 3] 4 (by decide) (by decide))

theorem ROpen_spec (ok : RowsOk rows) (hB : rows.length ≤ 1099511627776) (h : SatL H (refX db rows syn :: F))
    (k1 : openE most rows = 0 → ∀ (rs : List Ry) a c rb H', rs.map Ry.rc = allM rows → SatL H' (rreelA rb db (opS most rows) :: slA 80 2 a rs.length c (flat encR rs) :: rowsR rs :: refX db rows syn :: F) →
      K (.tuple #[.pointer (some ⟨rb, 0, none⟩), .slice a rs.length c, .int .i64 0]) H')
    (k2 : openE most rows ≠ 0 → ∀ H', SatL H' (refX db rows syn :: F) → K (.tuple #[.pointer none, .slice none 0 0, .int .i64 (openE most rows)]) H') :
    CallF Try.prog 38 #[.pointer (some ⟨db, 0, none⟩), .int .i64 most] H K := by
  refine R11_Open.call ?_
  unfold R11_Open.code
  refine ⟨fun hx => ?_, fun hx => ?_⟩
  · have hm : most < 64 ∨ 1048576 < most := by simpa using hx
    have e : openE most rows = 11 := by unfold openE; rw [if_pos hm]
    have := k2 (by rw [e]; decide) _ h
    rwa [e] at this
  have hm : ¬ (most < 64 ∨ 1048576 < most) := by simp at hx; omega
  have hsg := segOf_in ok
  refine RFiles_spec hB h fun fa fc H1 h => ⟨_, _, _, rfl, ?_⟩
  refine h.al fun b H2 h => ?_
  intro Jn hJ
  have hfl := filesOf_length_le rows
  have rest : ∀ H', SatL H' (cellsA b [.pointer (some ⟨db, 0, none⟩), .int .i64 most, .int .i64 (segOf rows), .int .i64 0, .int .i64 0] 76 :: slA 3 1 fa (filesOf rows).length fc ((filesOf rows).map I64) :: refX db rows syn :: F) → Jn H' := by
    intro H' h
    refine hJ _ ?_
    unfold R11_Open.r1
    refine ⟨_, h.rd 0 rfl _, fun hx => ?_, fun hx => ?_⟩
    · have hlt : 2147483647 < segOf rows := of_decide_eq_true hx
      have e : openE most rows = 20 := by unfold openE; rw [if_neg hm, if_pos hlt]
      have := k2 (by rw [e]; decide) _ h.tl.tl
      rwa [e] at this
    · have hge : ¬ 2147483647 < segOf rows := of_decide_eq_false hx
      have e : openE most rows = 0 := by unfold openE; rw [if_neg hm, if_neg hge]
      refine All_spec (F := cellsA b [.pointer (some ⟨db, 0, none⟩), .int .i64 most, .int .i64 (segOf rows), .int .i64 0, .int .i64 0] 76 :: F) ok hB (h.ordt [2, 0] 3 (by decide) (by decide)) fun rs a c H3 hrs h => ⟨_, _, _, rfl, ?_⟩
      refine h.st 3 rfl rfl fun H4 h => h.st 3 rfl rfl fun H5 h => ?_
      have hk := k1 e rs a c b H5 hrs
      have hlen : rs.length = (allM rows).length := by rw [← hrs, List.length_map]
      unfold rreelA at hk
      dsimp only at hk
      rw [← hlen] at hk
      exact hk (h.ordt [3, 0, 1, 2] 4 (by decide) (by decide))
  refine ⟨fun hx => ?_, fun hx => ?_⟩
  · have hpos : 0 < (filesOf rows).length := by have := of_decide_eq_true hx; omega
    obtain ⟨n, hn⟩ : ∃ n, n + 1 = (filesOf rows).length := ⟨(filesOf rows).length - 1, by omega⟩
    obtain ⟨f, h1, h2, h3⟩ := segOf_cons hn
    have hf := ok.file h3
    have en : IntKind.i64.wrap (((filesOf rows).length : Int) - 1) = (n : Nat) := by rw [w64 (by omega) (by omega)]; omega
    have hlt : n < (filesOf rows).length := by omega
    have hr := (h.sl_rd 1 rfl).at hlt
    rw [en]
    have hg : (filesOf rows)[n] = f := by rw [List.getElem?_eq_getElem hlt] at h1; exact Option.some.inj h1
    rw [hg] at hr
    refine ⟨⟨by omega, by omega⟩, _, _, hr.1, _, hr.2, ?_⟩
    rw [w64 (x := f + 1) (by omega) (by omega), ← h2]
    exact h.st 0 rfl rfl fun H3 h => rest _ h
  · have hz : (filesOf rows).length = 0 := by have := of_decide_eq_false hx; omega
    have := rest H2
    rw [segOf_nil hz] at this
    exact this h
end
end Go.Proofs.Ytomdcdfcdeaabaa
