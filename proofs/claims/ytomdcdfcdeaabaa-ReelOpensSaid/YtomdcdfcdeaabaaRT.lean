/-
  ReelCalls, ReelOpens.
-/
import Derived.Test.YtomdcdfcdeaabaaRS
set_option linter.unusedVariables false
set_option linter.unusedSimpArgs false
namespace Go.Proofs.Ytomdcdfcdeaabaa
open Go Go.Nm Go.Proofs
def RCallOk (H0 : Heap) (x : RD) : Prop := rdS H0 x.a (x.bs.map U8) ∧ wf64 x.n ∧ isBytes x.bs
theorem reads_rcalls {H : Type} {enc : TypeId × Value → H} {W : World} {cs : List Value} (h : Reads enc Try.prog W 63 cs) :
    ∃ a c calls, cs = [.slice a (List.length calls) c] ∧ calls.length ≤ maxLen ∧ rdS W.heap a (flat encD calls) ∧ ∀ x ∈ calls, RCallOk W.heap x := by
  refine reads_rows (sz := 4) Try.underlying63 (by kernel_rfl) (by decide) h (fun vs hv hl => ?_) encD_len
  obtain ⟨_, hf⟩ := reads_struct Try.underlying74 hv
  have c3 : Try.prog.cellsOf 3 = 1 := by kernel_rfl
  have c32 : Try.prog.cellsOf 32 = 1 := by kernel_rfl
  simp only [List.mem_cons, List.not_mem_nil, or_false, forall_eq_or_imp, forall_eq, c3, c32] at hf
  obtain ⟨f1, f2, f3, f4⟩ := hf
  match vs, hl with
  | [x, y, z, u], _ =>
    simp only [List.drop_zero, List.take_succ_cons, List.take_zero, List.drop_succ_cons] at f1 f2 f3 f4
    obtain ⟨n1, e1, _, _⟩ := reads_int Try.underlying3 f1
    obtain ⟨n2, e2, _, _⟩ := reads_int Try.underlying3 f2
    obtain ⟨n3, e3, l3, u3⟩ := reads_int Try.underlying3 f3
    obtain ⟨a, c, bs, e4, _, hr, hb⟩ := reads_bytesC f4
    simp only [List.cons.injEq, and_true] at e1 e2 e3 e4
    subst e1; subst e2; subst e3; subst e4
    exact ⟨⟨n1, n2, n3, a, c, bs⟩, rfl, hr, ⟨l3, u3⟩, hb⟩
def DCallOk (H0 : Heap) (x : CD) : Prop := rdS H0 x.a (x.bs.map U8) ∧ wf64 x.keep ∧ isBytes x.bs
theorem reads_dcalls {H : Type} {enc : TypeId × Value → H} {W : World} {cs : List Value} (h : Reads enc Try.prog W 22 cs) :
    ∃ a c calls, cs = [.slice a (List.length calls) c] ∧ calls.length ≤ maxLen ∧ rdS W.heap a (flat encC calls) ∧ ∀ x ∈ calls, DCallOk W.heap x := by
  refine reads_rows (sz := 4) Try.underlying22 (by kernel_rfl) (by decide) h (fun vs hv hl => ?_) encC_len
  obtain ⟨_, hf⟩ := reads_struct Try.underlying34 hv
  have c3 : Try.prog.cellsOf 3 = 1 := by kernel_rfl
  have c32 : Try.prog.cellsOf 32 = 1 := by kernel_rfl
  simp only [List.mem_cons, List.not_mem_nil, or_false, forall_eq_or_imp, forall_eq, c3, c32] at hf
  obtain ⟨f1, f2, f3, f4⟩ := hf
  match vs, hl with
  | [x, y, z, u], _ =>
    simp only [List.drop_zero, List.take_succ_cons, List.take_zero, List.drop_succ_cons] at f1 f2 f3 f4
    obtain ⟨n1, e1, _, _⟩ := reads_int Try.underlying3 f1
    obtain ⟨n2, e2, _, _⟩ := reads_int Try.underlying3 f2
    obtain ⟨n3, e3, l3, u3⟩ := reads_int Try.underlying3 f3
    obtain ⟨a, c, bs, e4, _, hr, hb⟩ := reads_bytesC f4
    simp only [List.cons.injEq, and_true] at e1 e2 e3 e4
    subst e1; subst e2; subst e3; subst e4
    exact ⟨⟨n1, n2, n3, a, c, bs⟩, rfl, hr, ⟨l3, u3⟩, hb⟩
theorem great36_no {calls : List RD} (h : (!decide (calls.length ≤ 40 ∧ ∀ x ∈ calls, x.bs.length ≤ 200)) = false) : calls.length ≤ 40 ∧ ∀ x ∈ calls, x.bs.length ≤ 200 := by simpa using h
theorem ti0 {most : Int} (h : openE most [] = 0) : TI most [] 0 (opS most []) 0 := by
  obtain ⟨_, h2, h3⟩ := ex_all
  have hr : 64 ≤ most ∧ most ≤ 1048576 := by
    unfold openE at h
    split at h
    · cases h
    · omega
  unfold opS
  rw [h2, h3]
  exact ⟨fun r hr => (by cases hr), fun r hr => (by cases hr), Nat.le_refl _, Int.le_refl _, Int.le_refl _, Nat.le_refl _, Nat.le_refl _, Nat.le_refl _, rfl, hr⟩
section
variable {H0 : Heap} {ca : Option Addr} {cc : Nat} {most : Int}

theorem ReelCalls_true {calls : List RD} (hlen0 : calls.length ≤ maxLen) (hc : rdS H0 ca (flat encD calls)) (hq : ∀ x ∈ calls, RCallOk H0 x) :
    CallF Try.prog 8 #[.int .i64 most, .slice ca calls.length cc] H0 fun v H' => v = .bool true ∧ Grow H0 H' := by
  refine ReelCalls.call ?_
  unfold ReelCalls.code
  refine alive28_spec (sat0 H0) fun H1 h => ⟨_, rfl, (fun hf => by cases hf), fun _ => ?_⟩
  refine ⟨_, Great36_spec (h.old_rd 0 rfl hc) hlen0, fun _ => ⟨rfl, h.old_grow 0 rfl⟩, fun hg => ?_⟩
  obtain ⟨hlen, hbig⟩ := great36_no hg
  have ok0 : RowsOk ([] : DR) := fun r hr => by cases hr
  refine New_spec h fun db H2 h => ⟨_, rfl, h.al fun pb _ h => ⟨(fun hf => by cases hf), fun _ => ?_⟩⟩
  have h := (refX_shut (rows := []) (syn := 0) ((h.sl_nil 105 2).ordt [1, 0, 2] 3 (by decide) (by decide))).ordt [1, 0] 2 (by decide) (by decide)
  refine Open_spec ok0 (Nat.zero_le _) h (fun he rs a1 c1 rb H3 hrs h => ⟨_, _, _, _, _, rfl, ?_⟩) fun he H3 h => ⟨_, _, _, _, _, rfl, ?_⟩
  · have hrs : rs = [] := by
      rw [ex_all.2.1] at hrs
      simpa using hrs
    subst hrs
    refine ROpen_spec (F := reelA rb db (opS most []) :: diskX db [] 0 :: [old H0]) ok0 (Nat.zero_le _) (h.ordt [4, 0, 3] 5 (by decide) (by decide)) (fun _ qs a2 c2 sb H4 hqs h => ⟨_, _, _, _, _, rfl, (fun hf => by simp at hf), fun _ => ⟨(fun hf => by cases hf), fun _ => ?_⟩⟩) fun hf => absurd he hf
    refine ⟨fun r7 s7 i H' => ∃ (rb sb : Nat) (rows : DR) (syn : Nat) (s : RL) (j : Nat), r7 = some ⟨rb, 0, none⟩ ∧ s7 = some ⟨sb, 0, none⟩ ∧ i = j ∧ j ≤ calls.length ∧ TI most rows syn s j ∧
      SatL H' (reelA rb db s :: diskX db rows syn :: rreelA sb pb s :: refX pb rows syn :: [old H0]), fun _ _ i _ => calls.length - i.toNat,
      ⟨rb, sb, [], 0, _, 0, rfl, rfl, rfl, Nat.zero_le _, ti0 he, h.ordt [4, 5, 0, 3] 6 (by decide) (by decide)⟩, ?_⟩
    rintro r7 s7 i H5 ⟨rb, sb, rows, syn, s, j, rfl, rfl, rfl, hj, ti, h⟩
    unfold ReelCalls.l2
    refine ⟨fun hx => ?_, fun _ => ⟨rfl, h.old_grow 4 rfl⟩⟩
    have hlt : j < calls.length := by simpa using hx
    have hr := h.old_rd 4 rfl hc
    have hm := List.getElem_mem hlt
    have hxo := hq _ hm
    have hxb := hbig _ hm
    refine ⟨⟨by omega, by omega⟩, _, _, hr.some encD_len (by omega) hlt, _, _, _, _, _, _, hr.els encD_len hlt, ?_⟩
    generalize calls[j] = x at *
    refine told_spec ti (by omega) hxb hxo.2.2 hxo.2.1 (fun H' h' => h'.old_rd 0 rfl hxo.1) h fun rb' sb' rows' syn' s' H6 ti' h => ⟨_, _, _, rfl, fun Jn hJ => ⟨fun _ => ?_, fun hf => absurd rfl hf⟩⟩
    have hlen' := ti'.len
    refine Agree_spec (s := (rows', syn')) (F := reelA rb' db s' :: rreelA sb' pb s' :: [old H0]) (by dsimp only; omega) ti'.syn (h.ordt [1, 3, 0, 2] 4 (by decide) (by decide)) fun H7 h => ⟨_, rfl, ?_⟩
    have h2 : SatL H7 (reelA rb' db s' :: diskX db rows' syn' :: rreelA sb' pb s' :: refX pb rows' syn' :: [old H0]) := h.ordt [2, 0, 3, 1] 4 (by decide) (by decide)
    refine ⟨_, fun _ => Next_spec h2, fun _ => trivial, _, fun _ => h2.rd 2 rfl _, _, fun _ => Synced_spec h2, fun _ => trivial, _, fun _ => h2.rd 2 rfl _, _, fun _ => Segment_spec h2, fun _ => trivial, _, fun _ => h2.rd 2 rfl _, hJ _ _ ?_⟩
    unfold ReelCalls.r1
    refine ⟨fun hf => by simp at hf, fun _ => ?_⟩
    rw [w64 (x := (j : Int) + 1) (by omega) (by omega)]
    exact ⟨⟨_, _, _, _, _, j + 1, rfl, rfl, rfl, hlt, ti', h2⟩, by simp only [Int.toNat_natCast]; omega⟩
  · refine ROpen_spec (F := diskX db [] 0 :: [old H0]) ok0 (Nat.zero_le _) (h.ordt [1, 0] 2 (by decide) (by decide)) (fun hf => absurd hf he) fun _ H4 h => ⟨_, _, _, _, _, rfl, (fun hf => by simp at hf), fun _ => ⟨fun _ => ⟨rfl, h.old_grow 2 rfl⟩, (fun hf => by cases hf)⟩⟩

theorem doD_ok {s : DR × Nat} {x : CD} (h : RowsOk s.1) (hx : isBytes x.bs) : RowsOk (doD s x).1 := by
  unfold doD
  split
  · split
    · exact h
    · exact h.app (by omega) hx
  · split
    · exact h
    · split
      · split
        · exact h
        · split
          · exact h
          · exact h.filter _
      · split
        · exact h.take _
        · exact h

theorem ReelOpens_true {files : List CD} (hlen0 : files.length ≤ maxLen) (hc : rdS H0 ca (flat encC files)) (hq : ∀ x ∈ files, DCallOk H0 x) :
    CallF Try.prog 9 #[.slice ca files.length cc, .int .i64 most] H0 fun v H' => v = .bool true ∧ Grow H0 H' := by
  refine ReelOpens.call ?_
  unfold ReelOpens.code
  refine alive28_spec (sat0 H0) fun H1 h => ⟨_, rfl, (fun hf => by cases hf), fun _ => ?_⟩
  refine ⟨_, Great_spec (h.old_rd 0 rfl hc) hlen0, fun _ => ⟨rfl, h.old_grow 0 rfl⟩, fun hg => ?_⟩
  obtain ⟨hlen, hbig⟩ := great_no hg
  refine New_spec h fun db H2 h => ⟨_, rfl, h.al fun rb _ h => ⟨(fun hf => by cases hf), fun _ => ?_⟩⟩
  have h := (refX_shut (rows := []) (syn := 0) ((h.sl_nil 105 2).ordt [1, 0, 2] 3 (by decide) (by decide))).ordt [1, 0] 2 (by decide) (by decide)
  refine ⟨fun i H' => ∃ (k : Nat) (s : DR × Nat), i = k ∧ k ≤ files.length ∧ s.2 ≤ s.1.length ∧ s.1.length ≤ 200 * k ∧ RowsOk s.1 ∧ SatL H' [diskX db s.1 s.2, refX rb s.1 s.2, old H0], fun i _ => files.length - i.toNat,
    ⟨0, ([], 0), rfl, Nat.zero_le _, Nat.le_refl _, Nat.le_refl _, fun r hr => (by cases hr), h⟩, ?_⟩
  rintro i H4 ⟨k, s, rfl, hk, hs, hsl, ok, h⟩
  unfold ReelOpens.l2
  refine ⟨fun hc1 => ?_, fun hc1 => ?_⟩
  · have hlt : k < files.length := by have := of_decide_eq_true hc1; omega
    have hr := h.old_rd 2 rfl hc
    have hx := hq _ (List.getElem_mem hlt)
    have hxb := hbig _ (List.getElem_mem hlt)
    refine ⟨⟨by omega, by omega⟩, _, _, hr.some encC_len (by omega) hlt, _, _, _, _, _, _, hr.els encC_len hlt, ?_⟩
    generalize files[k] = x at *
    refine Do_spec (s2 := s) (F := [old H0]) hx.2.1 (by omega) (by omega) (by omega) hs (fun H' h' => h'.old_rd 0 rfl hx.1) h fun r H5 hr h => ⟨_, rfl, ?_⟩
    rw [hr rfl]
    have hl2 := doD_len s x
    refine ⟨(fun hf => by cases hf), fun _ => ?_⟩
    rw [w64 (x := (k : Int) + 1) (by omega) (by omega)]
    exact ⟨⟨k + 1, _, rfl, hlt, doD_syn hs x, by omega, doD_ok ok hx.2.2, h⟩, by simp only [Int.toNat_natCast]; omega⟩
  · refine Open_spec ok (by omega) h (fun he rs a1 c1 qb H5 hrs h => ⟨_, _, _, _, _, rfl, ?_⟩) fun he H5 h => ⟨_, _, _, _, _, rfl, ?_⟩
    · refine ROpen_spec (F := reelA qb db (opS most s.1) :: slA 52 2 a1 rs.length c1 (flat encR rs) :: rowsR rs :: diskX db s.1 s.2 :: [old H0]) ok (by omega) (h.ordt [4, 0, 1, 2, 3] 5 (by decide) (by decide)) (fun _ qs a2 c2 sb H6 hqs h => ⟨_, _, _, _, _, rfl, fun Jn hJ => ⟨fun _ => ?_, fun hf => absurd (by simp) hf⟩⟩) fun hf => absurd he hf
      have hal := allM_len ok
      have hrl : rs.length ≤ 1099511627776 := by rw [← List.length_map (f := Ry.rc), hrs]; omega
      refine of_spec h (fun H h => h.sl_rd 5 rfl) hrl fun a3 c3 H7 h => ⟨_, _, _, rfl, ?_⟩
      have hbl : ∀ r ∈ rs, r.y.bs.length ≤ 1099511627776 := fun r hr => by
        have hm : r.rc ∈ allM s.1 := by rw [← hrs]; exact List.mem_map.2 ⟨r, hr, rfl⟩
        obtain ⟨f, hf, hm⟩ := List.mem_flatMap.1 hm
        have := ((scanM_ok (Nat.le_refl _) (ok.bytes f)).1 _ hm).len
        unfold Ry.rc at this
        dsimp only at this
        omega
      have q := Same_spec (c := c3) (d := c2) (h.sl_rd 0 rfl) (h.sl_rd 2 rfl) (rowsR_rd (h.ordt [7] 9 (by decide) (by decide))) (rowsR_rd (h.ordt [3] 9 (by decide) (by decide))) hrl hbl
      rw [decide_eq_true (by rw [hrs, hqs])] at q
      refine ⟨_, q, hJ _ _ ?_⟩
      unfold ReelOpens.r1
      have h5 : SatL H7 (reelA qb db (opS most s.1) :: rreelA sb rb (opS most s.1) :: old H0 :: []) := h.ordt [5, 1, 9] 10 (by decide) (by decide)
      refine ⟨fun hf => by simp at hf, fun _ => ⟨_, fun _ => Segment_spec h5, fun _ => trivial, _, fun _ => h5.rd 1 rfl _, _, fun _ => Next_spec h5, fun _ => trivial, _, fun _ => h5.rd 1 rfl _, _, fun _ => Synced_spec h5, fun _ => trivial, _, fun _ => h5.rd 1 rfl _, ?_, h5.old_grow 2 rfl⟩⟩
      simp
    · refine ROpen_spec (F := diskX db s.1 s.2 :: [old H0]) ok (by omega) (h.ordt [1, 0] 2 (by decide) (by decide)) (fun hf => absurd hf he) fun _ H6 h => ⟨_, _, _, _, _, rfl, fun Jn hJ => ⟨fun _ => ?_, fun hf => absurd (by simp) hf⟩⟩
      refine of_spec (rs := []) h (fun H h => rdS_nil _ _) (Nat.zero_le _) fun a3 c3 H7 h => ⟨_, _, _, rfl, ?_⟩
      have q := Same_spec (H := H7) (a := a3) (b := none) (c := c3) (d := 0) (rs := []) (qs := []) (rdS_nil _ _) (rdS_nil _ _) (fun r hr => by cases hr) (fun r hr => by cases hr) (Nat.zero_le _) (fun r hr => by cases hr)
      rw [decide_eq_true rfl] at q
      refine ⟨_, q, hJ _ _ ?_⟩
      unfold ReelOpens.r1
      refine ⟨fun hf => by simp at hf, fun _ => ⟨0, (fun hf => by cases hf), (fun hf => by cases hf), 0, (fun hf => by cases hf), 0, fun hf => (by cases hf.1), fun hf => (by cases hf.1), 0, fun hf => (by cases hf.1), 0, fun hf => (by cases hf.1), fun hf => (by cases hf.1), 0, fun hf => (by cases hf.1), rfl, h.old_grow 3 rfl⟩⟩
end
end Go.Proofs.Ytomdcdfcdeaabaa
