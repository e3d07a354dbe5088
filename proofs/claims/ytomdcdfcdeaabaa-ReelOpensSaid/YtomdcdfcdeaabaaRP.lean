/-
  The reel's example, run.
-/
import Derived.Test.YtomdcdfcdeaabaaRO
set_option linter.unusedVariables false
set_option linter.unusedSimpArgs false
namespace Go.Proofs.Ytomdcdfcdeaabaa
open Go Go.Nm Go.Proofs
section
variable {F L : List Assn} {H : Heap} {K : Value → Heap → Prop}
theorem map_one {α β : Type} {f : α → β} {x : β} : ∀ {l : List α}, l.map f = [x] → ∃ r, l = [r] ∧ f r = x
  | [r], h => ⟨r, rfl, by simpa using h⟩
theorem madeCells_one (v : Value) (n : Nat) : madeCells #[v] n = (List.replicate n v).toArray := by
  unfold madeCells
  refine Array.ext (by simp) fun i h1 h2 => ?_
  simp [Nat.mod_one]
theorem slA_cat {a : Option Addr} {c m : Nat} {xs ys : List Int} (hm : m = ys.length) (h : SatL H (slA 5 1 a (xs.length + m) c (xs.map U8 ++ ys.map U8) :: L)) : SatL H (slA 5 1 a (xs ++ ys).length c ((xs ++ ys).map U8) :: L) := by
  rw [List.length_append, List.map_append, ← hm]
  exact h
theorem make70 (h : SatL H L) (k : ∀ a c H', SatL H' (slA 5 1 a 70 c (ex2.data.map U8) :: L) → K (.slice a 70 c) H') : RunW Try.prog (Instr.makeSlice 32 (.int .i64 70) (.int .i64 70)) H K := by
  intro w hw
  subst hw
  obtain ⟨i, z, hi, hz, h1, h2, h3⟩ := sl32.info
  have hc : madeCells z.cells (Int.toNat 70 * i.size) = (ex2.data.map U8).toArray := by
    have : Try.prog.info? 5 = some i := hi
    have e2 : (Try.prog.info? 5).map (fun i => (i.zero, i.size)) = some (some (.int .u8 0), 1) := by kernel_rfl
    rw [this, Option.map_some, hz] at e2
    simp only [Option.some.injEq, Prod.mk.injEq] at e2
    rw [e2.1, e2.2]
    have e3 : ex2.data.map U8 = List.replicate 70 (U8 0) := List.map_replicate ..
    rw [e3]
    exact madeCells_one _ _
  have hr := run_make (P := Try.prog) w 32 5 i z (by kernel_rfl) hi hz .i64 .i64 70 70 (by decide) (by decide) (by rw [h2]; decide) (by decide)
  rw [hc] at hr
  refine ⟨_, _, hr, ⟨rfl, rfl, rfl⟩, k _ _ _ ?_⟩
  exact SatL.sl_pt (h.push (.cells (ex2.data.map U8).toArray 5)) 1 70 rfl

theorem alive28_spec (h : SatL H F) (k : ∀ H', SatL H' F → K (.bool true) H') : CallF Try.prog 28 #[] H K := by
  refine alive_28.call ?_
  unfold alive_28.code
  have c32 := fun {H : Heap} {L : List Assn} {K : Value → Heap → Prop} {b n c : Nat} {cs : List Value} => conv_same (P := Try.prog) (t := 32) (e := 5) (H := H) (L := L) (K := K) (b := b) (n := n) (c := c) (cs := cs) Try.underlying32 Try.underlying5
  have ok0 : RowsOk ([] : DR) := fun r hr => by cases hr
  refine New_spec h fun db H1 h => ⟨_, rfl, (fun hf => by cases hf), fun _ => ?_⟩
  obtain ⟨x1, x2, x3⟩ := ex_all
  refine Open_spec ok0 (by decide) h (fun _ rs a1 c1 rb H2 hrs h => ⟨_, _, _, _, _, rfl, (fun hf => by cases hf), fun _ => ?_⟩) fun hf => absurd x1 hf
  rw [x2] at hrs
  have hrs : rs = [] := by simpa using hrs
  subst hrs
  unfold opS at h
  rw [x2, x3] at h
  refine h.al fun b _ h => c32 h fun H2 h => ⟨_, _, _, rfl, ?_⟩
  refine h.al fun b1 _ h => c32 h fun H3 h => ⟨_, _, _, rfl, ?_⟩
  refine h.al fun b2 _ h => ?_
  have s0ok : exS0.ok := ⟨by decide, by decide, by decide, by decide⟩
  have efl : ([⟨some ⟨b, 0, none⟩, 1, [97]⟩, ⟨some ⟨b1, 0, none⟩, 1, [98]⟩] : List Fy).flatMap Fy.bs = [97, 98] := rfl
  have h : SatL _ (reelA rb db exS0 :: diskX db [] 0 :: cellsA b2 [.slice (some ⟨b, 0, none⟩) 1 1, .slice (some ⟨b1, 0, none⟩) 1 1] 32 :: litA b1 [U8 98] 5 :: litA b [U8 97] 5 :: F) := h.ordt [3, 6, 0, 1, 2] 7 (by decide) (by decide)
  refine AppendR_spec (kind := 1) (c := 2) (parts := [⟨some ⟨b, 0, none⟩, 1, [97]⟩, ⟨some ⟨b1, 0, none⟩, 1, [98]⟩]) s0ok (Nat.le_of_ble_eq_true rfl) h (fun H h => h.ce_rd 0 rfl) (fun H h y hy => ?_) (fun x hx => ?_) (Nat.le_of_ble_eq_true rfl) (Nat.le_of_ble_eq_true rfl) fun H4 h => ⟨_, _, rfl, ?_⟩
  · simp only [List.mem_cons, List.not_mem_nil, or_false] at hy
    rcases hy with rfl | rfl
    · exact h.lit_rd 2 rfl
    · exact h.lit_rd 1 rfl
  · exact ex1_ok.by' x hx
  obtain ⟨y1, y2, y3, y4⟩ := ex_app1
  rw [efl] at h ⊢
  rw [show (⟨1, [97, 98]⟩ : Rc) = ex1 from rfl] at h ⊢
  rw [y3, y4] at h
  rw [y1, y2]
  have h : SatL H4 (reelA rb db ⟨64, 0, 1, 0⟩ :: diskX db exA 0 :: F) := h.ordt [0, 1] 5 (by decide) (by decide)
  refine RSyncR_spec h fun H5 h => ⟨rfl, _, Synced_spec h, ?_⟩
  rw [exA_len] at h
  have h : SatL H5 (reelA rb db exS1 :: diskX db exA 8 :: F) := h
  refine make70 h fun a6 c6 H6 h => ⟨_, _, _, rfl, ?_⟩
  refine h.al fun b3 _ h => ?_
  have s1ok : exS1.ok := ⟨by decide, by decide, by decide, by decide⟩
  have efl2 : ([⟨a6, c6, ex2.data⟩] : List Fy).flatMap Fy.bs = ex2.data := by simp
  have h : SatL _ (reelA rb db exS1 :: diskX db exA 8 :: cellsA b3 [.slice a6 70 c6] 32 :: slA 5 1 a6 70 c6 (ex2.data.map U8) :: F) := h.ordt [2, 3, 0, 1] 4 (by decide) (by decide)
  refine AppendR_spec (kind := 2) (c := 1) (parts := [⟨a6, c6, ex2.data⟩]) s1ok (by rw [exA_len]; decide) h (fun H h => h.ce_rd 0 rfl) (fun H h y hy => ?_) (fun x hx => ?_) (Nat.le_of_ble_eq_true rfl) (by rw [efl2]; decide) fun H7 h => ⟨_, _, rfl, ?_⟩
  · rw [List.mem_singleton] at hy
    subst hy
    exact h.sl_rd 1 rfl
  · rw [efl2] at hx
    exact ex2_ok.by' x hx
  obtain ⟨z1, z2, z3, z4⟩ := ex_app2
  rw [efl2] at h ⊢
  rw [show (⟨2, ex2.data⟩ : Rc) = ex2 from rfl] at h ⊢
  rw [z3, z4] at h
  rw [z1, z2]
  refine Crash_spec (F := reelA rb db ⟨64, 1, 2, 1⟩ :: F) (keep := 9) ⟨by decide, by decide⟩ (by rw [exB_len]; decide) (h.ordt [1, 0] 4 (by decide) (by decide)) fun H8 h => ⟨rfl, ?_⟩
  rw [exC_crash] at h
  have h : SatL H8 (diskX db exC exC.length :: F) := h.ordt [0] 2 (by decide) (by decide)
  obtain ⟨w1, w2, w3⟩ := exC_open
  refine Open_spec exC_ok (by rw [exC_len]; decide) h (fun _ rs a9 c9 qb H9 hrs h => ⟨_, _, _, _, _, rfl, (fun hf => by cases hf), fun _ => ?_⟩) fun hf => absurd w1 hf
  rw [w3] at hrs
  obtain ⟨r, rfl, hr⟩ := map_one hrs
  have hrk : r.kind = 1 := congrArg Rc.kind hr
  have hrb : r.y.bs = [97, 98] := congrArg Rc.data hr
  unfold opS at h
  rw [w2, w3] at h
  refine h.al fun b4 _ h => c32 h fun H10 h => ⟨_, _, _, rfl, ?_⟩
  refine Bytes_spec (kind := 1) (a := some ⟨b4, 0, none⟩) (c := 2) (bs := [97, 98]) h (fun H h => h.lit_rd 0 rfl) (.inr ⟨_, _, rfl⟩) ex1_ok.by' (by decide) (fun a11 c11 H11 _ h => ⟨_, _, _, _, rfl, ?_⟩) fun H11 hf => absurd (show bytesE 1 2 = 0 by decide) hf
  rw [show (⟨1, [97, 98]⟩ : Rc) = ex1 from rfl] at h ⊢
  have hnc := h.sl_nc 0 rfl
  have hl1 := ex1_len
  refine ⟨⟨by decide, by decide, by omega⟩, ?_⟩
  refine CopyBytes_own h (fun H h => h.sl_rd 0 rfl) (by omega) fun a12 c12 H12 h => ⟨_, _, _, rfl, ?_⟩
  have hr5 := ((h.sl_rd 1 rfl).take 5).sb0 (m := c11)
  rw [← List.map_take] at hr5
  have ht5 : ((recB ex1).take 5).length = 5 := by rw [List.length_take, hl1]; rfl
  refine SatL.append (m := 5) (ws := ((recB ex1).take 5).map U8) sl32 h 0 rfl hr5 (by rw [List.length_map, ht5]) (plain_map (fun _ => rfl) _) (by omega) (by omega) fun a13 c13 H13 h => ⟨_, _, _, rfl, ?_⟩
  have ecat : (recB ex1).length + 5 = (recB ex1 ++ (recB ex1).take 5).length := by rw [List.length_append, ht5]
  have h := slA_cat ht5.symm h
  rw [ecat]
  refine scan_spec h (fun H h => h.sl_rd 0 rfl) (isBytes_append (recB_bytes ex1_ok) (isBytes_take 5 (recB_bytes ex1_ok))) (by rw [← ecat]; omega) fun qs a14 c14 H14 hqs h => ⟨_, _, _, _, rfl, ?_⟩
  rw [ex_scan] at hqs ⊢
  have hql : qs.length = 1 := by
    have := congrArg List.length hqs
    simpa using this
  rw [hql, hl1]
  refine ⟨(fun hf => by cases hf), fun _ => ?_⟩
  have h := h.ordt [5, 8, 6, 7, 3] 9 (by decide) (by decide)
  have h : SatL H14 (reelA qb db ⟨64, 2, 1, 1⟩ :: diskX db exC exC.length :: slA 52 2 a9 1 c9 (flat encR [r]) :: rowsR [r] :: slA 5 1 a11 (recB ex1).length c11 ((recB ex1).map U8) :: F) := h
  refine Turn_spec (by decide) h (fun hf => by cases hf) fun _ H15 h => ⟨_, _, rfl, ?_⟩
  have h : SatL H15 (reelA qb db ⟨64, 3, 1, 1⟩ :: diskX db exC exC.length :: slA 52 2 a9 1 c9 (flat encR [r]) :: rowsR [r] :: slA 5 1 a11 (recB ex1).length c11 ((recB ex1).map U8) :: F) := h
  refine DropR_spec (by rw [exC_len]; decide) (Nat.le_refl _) h (fun hf => absurd hf (Nat.lt_irrefl _)) fun _ H16 h => ⟨_, rfl, fun Jn hJ => ?_⟩
  have h : SatL H16 (reelA qb db ⟨64, 3, 1, 1⟩ :: diskX db (dropR 3 exC) (dropR 3 exC).length :: slA 52 2 a9 1 c9 (flat encR [r]) :: rowsR [r] :: slA 5 1 a11 (recB ex1).length c11 ((recB ex1).map U8) :: F) := h
  rw [exC_drop] at h
  have q1 := h.sl_rd 2 rfl
  have q2 := rowsR_rd (h.ordt [3] 5 (by decide) (by decide)) r (by simp)
  have e0 := q1.some encR_len (by decide) (show 0 < [r].length from Nat.zero_lt_one)
  have e1 := q1.el0 encR_len (show 0 < [r].length from Nat.zero_lt_one) (v := .int .i64 r.kind) rfl
  have e2 := q1.el encR_len (show 0 < [r].length from Nat.zero_lt_one) 1 (v := encY r.y) rfl
  refine ⟨fun _ => ⟨by decide, Int.zero_lt_one⟩, _, _, fun _ => e0, _, fun _ => e1, fun _ => ⟨by decide, Int.zero_lt_one⟩, _, _, fun _ => e0, _, _, _, fun _ => e2, fun _ => ?_, fun hf => absurd (by rw [hrk]; decide) hf⟩
  refine h.al fun b7 _ h => c32 h fun H17 h => ⟨_, _, _, rfl, ?_⟩
  have q2' : rdS H17 r.y.a (r.y.bs.map U8) := rowsR_rd (h.ordt [4] 6 (by decide) (by decide)) r (by simp)
  have hx0 := (h.sl_rd 5 rfl) 0 (U8 7) (by rw [lget_map', lget_eq', ex1_head]; rfl)
  refine ⟨_, SameBytes_spec (d := 2) (ys := [97, 98]) q2' (h.lit_rd 0 rfl) (by rw [hrb]; decide), ?_⟩
  rw [decide_eq_true hrb]
  have h2 : SatL H17 (reelA qb db ⟨64, 3, 1, 1⟩ :: diskX db [] 0 :: F) := h.ordt [1, 2] 6 (by decide) (by decide)
  refine ⟨fun _ => ⟨by decide, by decide⟩, _, _, fun _ => hx0.1, _, fun _ => hx0.2, _, fun _ => Segment_spec h2, _, fun _ => Next_spec h2, fun _ => ?_, fun hf => absurd (by decide) hf⟩
  refine Size_spec (F := reelA qb db ⟨64, 3, 1, 1⟩ :: F) (by decide) (h2.ordt [1, 0] 2 (by decide) (by decide)) fun H18 h => ⟨_, rfl, hJ _ _ ?_⟩
  unfold alive_28.r1
  exact k _ h.tl.tl
end
end Go.Proofs.Ytomdcdfcdeaabaa
