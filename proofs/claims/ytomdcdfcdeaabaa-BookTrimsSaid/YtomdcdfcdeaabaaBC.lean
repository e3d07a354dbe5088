/-
  BookTrims.
-/
import Derived.Test.YtomdcdfcdeaabaaBB
set_option linter.unusedVariables false
set_option linter.unusedSimpArgs false
namespace Go.Proofs.Ytomdcdfcdeaabaa
open Go Go.Nm Go.Proofs
theorem reads_bcalls {H : Type} {enc : TypeId × Value → H} {W : World} {cs : List Value} (h : Reads enc Try.prog W 83 cs) :
    ∃ a c calls, cs = [.slice a (List.length calls) c] ∧ calls.length ≤ maxLen ∧ rdS W.heap a (flat encD calls) ∧ ∀ x ∈ calls, RCallOk W.heap x := by
  refine reads_rows (sz := 4) Try.underlying83 (by kernel_rfl) (by decide) h (fun vs hv hl => ?_) encD_len
  obtain ⟨_, hf⟩ := reads_struct Try.underlying92 hv
  have c3 : Try.prog.cellsOf 3 = 1 := by kernel_rfl
  have c32 : Try.prog.cellsOf 32 = 1 := by kernel_rfl
  simp only [List.mem_cons, List.not_mem_nil, or_false, forall_eq_or_imp, forall_eq, c3, c32] at hf
  obtain ⟨f1, f2, f3, f4⟩ := hf
  match vs, hl with
  | [x, y, z, u], _ =>
    simp only [List.drop_zero, List.take_succ_cons, List.take_zero, List.drop_succ_cons] at f1 f2 f3 f4
    obtain ⟨n1, e1, _, _⟩ := reads_int Try.underlying3 f1
    obtain ⟨n2, e2, _, _⟩ := reads_int Try.underlying3 f2
    obtain ⟨n3, e3, l3, u3⟩ := reads_int Try.underlying3 f3
    obtain ⟨a, c, bs, e4, _, hr, hb⟩ := reads_bytesC f4
    simp only [List.cons.injEq, and_true] at e1 e2 e3 e4
    subst e1; subst e2; subst e3; subst e4
    exact ⟨⟨n1, n2, n3, a, c, bs⟩, rfl, hr, ⟨l3, u3⟩, hb⟩
section
variable {H0 : Heap} {ca : Option Addr} {cc : Nat} {most : Int}
theorem BookTrims_true {calls : List RD} (hlen0 : calls.length ≤ maxLen) (hc : rdS H0 ca (flat encD calls)) (hq : ∀ x ∈ calls, RCallOk H0 x) :
    CallF Try.prog 12 #[.int .i64 most, .slice ca calls.length cc] H0 fun v H' => v = .bool true ∧ Grow H0 H' := by
  refine BookTrims.call ?_
  unfold BookTrims.code
  refine alive47_spec (sat0 H0) fun H1 h => ⟨_, rfl, (fun hf => by cases hf), fun _ => ?_⟩
  refine ⟨_, great_spec (h.old_rd 0 rfl hc) hlen0, fun _ => ⟨rfl, h.old_grow 0 rfl⟩, fun hg => ?_⟩
  rw [Bool.or_eq_false_iff, Bool.or_eq_false_iff] at hg
  obtain ⟨hlen, hbig⟩ := great36_no hg.1.1
  have hrange : 64 ≤ most ∧ most ≤ 1048576 := by
    have h1 := of_decide_eq_false hg.1.2
    have h2 := of_decide_eq_false hg.2
    omega
  have ok0 : RowsOk ([] : DR) := fun r hr => by cases hr
  have he0 : openE most [] = 0 := openE_in hrange (by rw [ex_all.2.2]; decide)
  refine New_spec h fun db H2 h => ⟨_, rfl, (fun hf => by cases hf), fun _ => ?_⟩
  refine BOpen_spec ok0 (Nat.zero_le _) h (fun _ rs0 qs0 fy0 has0 a0 c0 bb rb H3 hrs ht h => ⟨_, _, _, _, _, _, _, _, _, rfl, ?_⟩) fun hf => absurd he0 hf
  refine h.al fun b H4 h => h.st 0 rfl rfl fun H5 h => ⟨fun _ => trivial, _, fun _ => h.rd 1 rfl _, (fun hf => by cases hf), fun _ => ?_⟩
  refine ⟨fun at_ i H' => ∃ (j : Nat) (rows : DR) (syn : Nat) (s : RL) (L : LG) (saved : Bool) (num seg : Int), i = j ∧ j ≤ calls.length ∧ TI most rows syn s j ∧ LogI rows syn s L ∧ BI L saved num seg at_ ∧
      SatL H' (bookA bb rb saved num seg :: reelA rb db s :: diskX db rows syn :: [old H0]), fun _ i _ => calls.length - i.toNat,
    ⟨0, [], 0, _, [], false, 0, 0, rfl, Nat.zero_le _, ti0 he0, ci0 hrange, ⟨fun _ => ⟨rfl, fun x hx => (by cases hx)⟩, fun hf => by cases hf⟩, h.ordt [1, 2, 5, 6] 7 (by decide) (by decide)⟩, ?_⟩
  rintro at_ i H6 ⟨j, rows, syn, s, L, saved, num, seg, rfl, hj, ti, ci, bi, h⟩
  have hok := ti.ok (by omega)
  have hrl := ti.len
  have hsg := ti.seg
  have hsg0 := ti.seg0
  unfold BookTrims.l5
  refine ⟨fun hx => ?_, fun hx => ?_⟩
  · have hlt : j < calls.length := by simpa using hx
    have hr := h.old_rd 3 rfl hc
    have hm := List.getElem_mem hlt
    have hxo := hq _ hm
    have hxb := hbig _ hm
    refine ⟨⟨by omega, by omega⟩, _, _, hr.some encD_len (by omega) hlt, _, _, _, _, _, _, hr.els encD_len hlt, ?_⟩
    generalize calls[j] = x at *
    refine h.al fun b2 H7 h => ?_
    refine h.st 0 rfl rfl fun H8 h => ⟨_, h.rd 0 rfl _, fun Jn hJ => ?_⟩
    have fin : ∀ at' rows' syn' s' L' saved' num' seg' H', TI most rows' syn' s' (j + 1) → LogI rows' syn' s' L' → BI L' saved' num' seg' at' → SatL H' (bookA bb rb saved' num' seg' :: reelA rb db s' :: diskX db rows' syn' :: [old H0]) → Jn at' H' := by
      intro at' rows' syn' s' L' saved' num' seg' H' ti' ci' bi' h'
      refine hJ _ _ ?_
      unfold BookTrims.r1
      rw [w64 (x := (j : Int) + 1) (by omega) (by omega)]
      exact ⟨⟨j + 1, _, _, _, _, _, _, _, rfl, hlt, ti', ci', bi', h'⟩, by simp only [Int.toNat_natCast]; omega⟩
    refine ⟨fun hc0 => ?_, fun n0 => ?_⟩
    · refine ⟨_, h.rd 0 rfl _, _, _, _, h.rd 0 rfl _, ?_⟩
      refine CopyBytes_own h (fun H h => h.old_rd 4 rfl hxo.1) (by omega) fun na nc H9 h => ⟨_, _, _, rfl, h.rd 1 rfl _, ?_⟩
      refine h.al fun b3 H10 h => ⟨h.rd 2 rfl _, ?_⟩
      have h := h.ordt [3, 0, 1, 4, 5, 6] 7 (by decide) (by decide)
      refine BAppend_spec h (fun hk => ⟨_, _, rfl, ?_⟩) fun hk => ?_
      · exact fin _ _ _ _ _ _ _ _ _ ti.mono ci bi (h.ordt [0, 3, 4, 5] 6 (by decide) (by decide))
      · refine append_one (x := x) (F := bookA bb rb saved num seg :: [old H0]) hok (by omega) hxo.2.2 hxb (h.ordt [1, 2, 3, 4, 0, 5] 6 (by decide) (by decide)) fun H11 h => ⟨_, _, rfl, _, _, rfl, ?_⟩
        by_cases he : appE rows s ⟨x.kind, x.bs⟩ = 0
        · exact fin _ _ _ _ _ _ _ _ _ (ti.append (by omega) hxo.2.2 hxb) (ci.append hxo.2.2 he) (bi.app (by dsimp only; omega)) (h.ordt [2, 0, 1, 3] 4 (by decide) (by decide))
        · have e1 : appRows rows s ⟨x.kind, x.bs⟩ = rows := by unfold appRows; rw [if_pos he]
          have e2 : appS rows s ⟨x.kind, x.bs⟩ = s := by unfold appS; rw [if_pos he]
          rw [e1, e2] at h
          exact fin _ _ _ _ _ _ _ _ _ ti.mono ci bi (h.ordt [2, 0, 1, 3] 4 (by decide) (by decide))
    · intro Jn1 hJ1
      have fin1 : ∀ at' rows' syn' s' L' saved' num' seg' H', TI most rows' syn' s' (j + 1) → LogI rows' syn' s' L' → BI L' saved' num' seg' at' → SatL H' (bookA bb rb saved' num' seg' :: reelA rb db s' :: diskX db rows' syn' :: [old H0]) → Jn1 at' H' := fun at' rows' syn' s' L' saved' num' seg' H' ti' ci' bi' h' => hJ1 _ _ (by
        unfold BookTrims.r2
        exact fin _ _ _ _ _ _ _ _ _ ti' ci' bi' h')
      refine ⟨fun hc1 => nn_some ⟨_, h.rd 1 rfl _, ?_⟩, fun n1 Jn2 hJ2 => ?_⟩
      · exact RSyncR_spec (F := bookA bb rb saved num seg :: [old H0]) (h.ordt [2, 3, 1, 4] 5 (by decide) (by decide)) fun H9 h => ⟨rfl, fin1 _ _ _ _ _ _ _ _ _ ti.sync ci.sync bi (h.ordt [2, 0, 1, 3] 4 (by decide) (by decide))⟩
      · have fin2 : ∀ at' rows' syn' s' L' saved' num' seg' H', TI most rows' syn' s' (j + 1) → LogI rows' syn' s' L' → BI L' saved' num' seg' at' → SatL H' (bookA bb rb saved' num' seg' :: reelA rb db s' :: diskX db rows' syn' :: [old H0]) → Jn2 at' H' := fun at' rows' syn' s' L' saved' num' seg' H' ti' ci' bi' h' => hJ2 _ _ (by
          unfold BookTrims.r3
          exact fin1 _ _ _ _ _ _ _ _ _ ti' ci' bi' h')
        refine ⟨fun hc2 => ?_, fun n2 => fin2 _ _ _ _ _ _ _ _ _ ti.mono ci bi h.tl⟩
        refine ⟨_, _, _, h.rd 0 rfl _, ?_⟩
        refine CopyBytes_own h (fun H h => h.old_rd 4 rfl hxo.1) (by omega) fun na nc H9 h => ⟨_, _, _, rfl, ?_⟩
        refine h.al fun b4 H10 h => ?_
        have efl : ([⟨na, nc, x.bs⟩] : List Fy).flatMap Fy.bs = x.bs := by simp
        have hrok : (⟨0, x.bs⟩ : Rc).ok := ⟨Int.le_refl 0, by show (0 : Int) ≤ 255; decide, by show x.bs.length ≤ 262144; omega, hxo.2.2⟩
        refine Save_spec (F := cellsA b4 [.slice na x.bs.length nc] 32 :: slA 5 1 na x.bs.length nc (x.bs.map U8) :: [old H0]) (parts := [⟨na, nc, x.bs⟩]) hok (by omega) ti.files (by omega) (h.ordt [3, 4, 5, 0, 1, 6] 7 (by decide) (by decide)) (fun H h => h.ce_rd 0 rfl) (fun H h y hy => by
          rw [List.mem_singleton] at hy; subst hy; exact h.sl_rd 1 rfl) (by rw [efl]; exact hxo.2.2) (Nat.le_of_ble_eq_true rfl) (by rw [efl]; omega) fun H11 h => ⟨_, _, rfl, (fun hf => by cases hf), fun _ => nn_some ⟨_, h.rd 0 rfl _, _, Segment_spec h.tl, ?_⟩⟩
        rw [efl] at h
        exact fin2 _ _ _ _ _ _ _ _ _ (ti.save (by omega) hrok hxb) (ci.save hrok) (BI.save hsg0 ci.seg ci.next _) (h.ordt [0, 1, 2, 5] 6 (by decide) (by decide))
  · refine nn_some ⟨_, h.rd 0 rfl _, ?_⟩
    refine RSyncR_spec (F := bookA bb rb saved num seg :: [old H0]) (h.ordt [1, 2, 0, 3] 4 (by decide) (by decide)) fun H7 h => ⟨rfl, ?_⟩
    have hsl := segOf_le hsg0 ti.files
    have hop : openE most rows = 0 := openE_in hrange (by omega)
    refine BOpen_spec (F := reelA rb db { s with syn := s.next } :: bookA bb rb saved num seg :: [old H0]) ti.rok (by omega) (h.ordt [1, 0, 2, 3] 4 (by decide) (by decide)) (fun _ rs1 qs1 fy1 has1 a3 c3 bb2 rb2 H8 hrs1 ht1 h => ⟨_, _, _, _, _, _, _, _, _, rfl, ?_⟩) fun hf => absurd hop hf
    refine h.al fun b5 H9 h => h.st 0 rfl rfl fun H10 h => ?_
    refine Size_spec (F := cellsA b5 [encY fy1, .bool has1, .slice a3 qs1.length c3] 87 :: bookA bb rb saved num seg :: reelA rb db { s with syn := s.next } :: slA 52 2 a3 qs1.length c3 (flat encR qs1) :: rowsR rs1 :: [old H0]) (by omega) (h.ordt [5, 0, 7, 6, 3, 4, 8] 9 (by decide) (by decide)) fun H9 h => ⟨_, rfl, ?_⟩
    have h := h.ordt [2, 3, 0, 1, 4, 5, 6] 7 (by decide) (by decide)
    refine Trim_spec (by omega) (Nat.le_refl _) h (fun hsv => ⟨_, rfl, ?_⟩) (fun hsv hle => ?_) (fun _ _ hf => absurd hf (Nat.lt_irrefl _)) fun hsv hle _ H9 h => ⟨_, rfl, ?_⟩
    · have hat := (bi.no hsv).1
      refine BOpen_spec (F := cellsA b5 [encY fy1, .bool has1, .slice a3 qs1.length c3] 87 :: slA 52 2 a3 qs1.length c3 (flat encR qs1) :: rowsR rs1 :: [old H0]) ti.rok (by omega) (h.ordt [2, 3, 4, 5, 6] 7 (by decide) (by decide)) (fun _ rs2 qs2 fy2 has2 a4 c4 bb3 rb3 H10 hrs2 ht2 h => ⟨_, _, _, _, _, _, _, _, _, rfl, ?_⟩) fun hf => absurd hop hf
      refine h.al fun b6 H11 h => h.st 0 rfl rfl fun H12 h Jn3 hJ3 => ?_
      obtain ⟨t1, t2, t3⟩ := ht1.same ht2 (by rw [hrs1, hrs2])
      obtain ⟨l1, l2⟩ := recs_short ti.rok hrs1
      obtain ⟨m1, m2⟩ := recs_short ti.rok hrs2
      have hq1 : qs1.length ≤ rs1.length := ht1.len
      have hq2 : qs2.length ≤ rs2.length := ht2.len
      have f1 := ht1.rd (h.ordt [8] 10 (by decide) (by decide))
      have f2 := ht2.rd (h.ordt [4] 6 (by decide) (by decide))
      have s1 := ht1.short l2
      have q := SameBytes_spec (c := fy1.c) (d := fy2.c) f1 f2 s1
      rw [decide_eq_true t2] at q
      refine ⟨_, fun _ => h.rd 6 rfl _, _, fun _ => h.rd 0 rfl _, _, _, _, fun _ => h.rd 6 rfl _, _, _, _, fun _ => h.rd 0 rfl _, _, fun _ => q, _, _, _, fun _ => h.rd 6 rfl _, _, _, _, fun _ => h.rd 0 rfl _, fun _ => ?_, fun hf => absurd (by rw [t1]; simp) hf⟩
      refine of53_spec h (fun H h => h.sl_rd 7 rfl) (by omega) fun a5 c5 H13 h => ⟨_, _, _, rfl, fun _ => h.rd 1 rfl _, ?_⟩
      refine of53_spec h (fun H h => h.sl_rd 4 rfl) (by omega) fun a6 c6 H14 h => ⟨_, _, _, rfl, ?_⟩
      have q2 := Same_spec (c := c5) (d := c6) (h.sl_rd 1 rfl) (h.sl_rd 0 rfl) (fun r hr => rowsR_rd (h.ordt [10] 12 (by decide) (by decide)) r (ht1.sub r hr)) (fun r hr => rowsR_rd (h.ordt [6] 8 (by decide) (by decide)) r (ht2.sub r hr)) (by omega) fun r hr => l2 r (ht1.sub r hr)
      rw [decide_eq_true t3] at q2
      refine ⟨_, q2, fun _ => ?_, fun hf => absurd (by rfl) hf⟩
      refine Size_spec (F := [old H0]) (by omega) (h.ordt [7, 11] 12 (by decide) (by decide)) fun H15 h => ⟨_, rfl, hJ3 _ _ ?_⟩
      unfold BookTrims.r4
      refine ⟨fun hf => absurd (of_decide_eq_true hf) (by omega), fun _ => ?_⟩
      refine ⟨fun _ => ⟨rfl, h.old_grow 1 rfl⟩, fun hf => absurd (of_decide_eq_false hf) (by omega)⟩
    · obtain ⟨A, d, B, e, h1, h2, h3, h4, h5⟩ := bi.yes hsv
      exfalso
      have hln := ci.next
      have : L.length = A.length + (1 + B.length) := by
        rw [e, List.length_append, List.length_cons]
        omega
      dsimp only at hle
      omega
    · subst hsv
      obtain ⟨htr, l, hfl⟩ := bi.trim ci.ok
      rw [← ci.rows'] at htr hfl
      obtain ⟨_, _, _, _, _, _, _, hat, hat0⟩ := bi.yes rfl
      have hdok : RowsOk (dropR seg rows) := ti.rok.filter _
      have hdl : (dropR seg rows).length ≤ rows.length := List.length_filter_le _ _
      have hdop : openE most (dropR seg rows) = 0 := openE_in hrange (by
        have := segOf_le (rows := dropR seg rows) hsg0 fun r hr => ti.files r (List.mem_filter.1 hr).1
        omega)
      refine BOpen_spec (F := cellsA b5 [encY fy1, .bool has1, .slice a3 qs1.length c3] 87 :: slA 52 2 a3 qs1.length c3 (flat encR qs1) :: rowsR rs1 :: [old H0]) hdok (by omega) (h.ordt [2, 3, 4, 5, 6] 7 (by decide) (by decide)) (fun _ rs2 qs2 fy2 has2 a4 c4 bb3 rb3 H10 hrs2 ht2 h => ⟨_, _, _, _, _, _, _, _, _, rfl, ?_⟩) fun hf => absurd hdop hf
      refine h.al fun b6 H11 h => h.st 0 rfl rfl fun H12 h Jn3 hJ3 => ?_
      obtain ⟨t1, t2, t3⟩ := ht1.same ht2 (by rw [hrs1, hrs2]; exact htr)
      obtain ⟨l1, l2⟩ := recs_short ti.rok hrs1
      obtain ⟨m1, m2⟩ := recs_short hdok hrs2
      have hq1 : qs1.length ≤ rs1.length := ht1.len
      have hq2 : qs2.length ≤ rs2.length := ht2.len
      have f1 := ht1.rd (h.ordt [8] 10 (by decide) (by decide))
      have f2 := ht2.rd (h.ordt [4] 6 (by decide) (by decide))
      have s1 := ht1.short l2
      have q := SameBytes_spec (c := fy1.c) (d := fy2.c) f1 f2 s1
      rw [decide_eq_true t2] at q
      refine ⟨_, fun _ => h.rd 6 rfl _, _, fun _ => h.rd 0 rfl _, _, _, _, fun _ => h.rd 6 rfl _, _, _, _, fun _ => h.rd 0 rfl _, _, fun _ => q, _, _, _, fun _ => h.rd 6 rfl _, _, _, _, fun _ => h.rd 0 rfl _, fun _ => ?_, fun hf => absurd (by rw [t1]; simp) hf⟩
      refine of53_spec h (fun H h => h.sl_rd 7 rfl) (by omega) fun a5 c5 H13 h => ⟨_, _, _, rfl, fun _ => h.rd 1 rfl _, ?_⟩
      refine of53_spec h (fun H h => h.sl_rd 4 rfl) (by omega) fun a6 c6 H14 h => ⟨_, _, _, rfl, ?_⟩
      have q2 := Same_spec (c := c5) (d := c6) (h.sl_rd 1 rfl) (h.sl_rd 0 rfl) (fun r hr => rowsR_rd (h.ordt [10] 12 (by decide) (by decide)) r (ht1.sub r hr)) (fun r hr => rowsR_rd (h.ordt [6] 8 (by decide) (by decide)) r (ht2.sub r hr)) (by omega) fun r hr => l2 r (ht1.sub r hr)
      rw [decide_eq_true t3] at q2
      refine ⟨_, q2, fun _ => ?_, fun hf => absurd (by rfl) hf⟩
      refine Size_spec (F := [old H0]) (by omega) (h.ordt [7, 11] 12 (by decide) (by decide)) fun H15 h => ⟨_, rfl, hJ3 _ _ ?_⟩
      unfold BookTrims.r4
      refine ⟨fun hf => absurd (of_decide_eq_true hf) (by omega), fun _ => ?_⟩
      refine ⟨fun hf => absurd (of_decide_eq_true hf) (by omega), fun _ => ?_⟩
      refine Files_spec (by omega) h fun fa fc H16 h => ⟨_, _, _, rfl, ?_⟩
      have hpos : 0 < (filesOf (dropR seg rows)).length := by rw [hfl]; simp
      have hr := (h.sl_rd 0 rfl).at hpos
      have hv : (filesOf (dropR seg rows))[0] = seg := by simp [hfl]
      rw [hv] at hr
      refine ⟨fun _ => ⟨by omega, by omega⟩, _, _, fun _ => hr.1, _, fun _ => hr.2, ?_, h.old_grow 2 rfl⟩
      rw [decide_eq_true (show (0 : Int) < ((filesOf (dropR seg rows)).length : Int) by omega), decide_eq_true hat.symm]
      rfl
end
end Go.Proofs.Ytomdcdfcdeaabaa
