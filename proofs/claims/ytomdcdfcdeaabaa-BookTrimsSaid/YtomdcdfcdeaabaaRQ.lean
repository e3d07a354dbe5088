/-
  The reel's example. The reel's example, run. ReelBytes.
-/
import Derived.Test.YtomdcdfcdeaabaaRN
import Derived.Test.YtomdcdfcdeaabaaT3
import Derived.Laws.MakeOwn
set_option linter.unusedVariables false
set_option linter.unusedSimpArgs false
namespace Go.Nm
open Go
def ex1 : Rc := ⟨1, [97, 98]⟩
def ex2 : Rc := ⟨2, List.replicate 70 0⟩
theorem ex1_ok : ex1.ok := ⟨by decide, by decide, by decide, fun x hx => by
  simp only [ex1, List.mem_cons, List.not_mem_nil, or_false] at hx
  omega⟩
theorem ex2_ok : ex2.ok := ⟨by decide, by decide, by decide, fun x hx => by
  have := List.eq_of_mem_replicate hx
  omega⟩
theorem bodyB_lenE (r : Rc) : (bodyB r).length = (uintB r.kind.toNat).length + r.data.length + 4 := by unfold bodyB; rw [sealB_len, List.length_append]
theorem ex1_body : (bodyB ex1).length = 7 := by
  rw [bodyB_lenE, show ex1.kind.toNat = 1 from rfl, uintB_lt (by decide)]; rfl
theorem ex2_body : (bodyB ex2).length = 75 := by
  rw [bodyB_lenE, show ex2.kind.toNat = 2 from rfl, uintB_lt (by decide)]; rfl
theorem ex1_len : (recB ex1).length = 8 := by
  unfold recB
  rw [ex1_body, uintB_lt (by decide), List.length_append, ex1_body]; rfl
theorem ex2_len : (recB ex2).length = 76 := by
  unfold recB
  rw [ex2_body, uintB_lt (by decide), List.length_append, ex2_body]; rfl
theorem ex1_head : (recB ex1)[0]? = some 7 := by
  unfold recB
  rw [ex1_body, uintB_lt (by decide)]; rfl
def exA : DR := (recB ex1).map fun b => (0, b)
def exB : DR := exA ++ (recB ex2).map fun b => (1, b)
def exC : DR := exA ++ ((recB ex2).take 9).map fun b => (1, b)
theorem exA_len : exA.length = 8 := by unfold exA; rw [List.length_map, ex1_len]
theorem exB_len : exB.length = 84 := by unfold exB; rw [List.length_append, List.length_map, exA_len, ex2_len]
theorem exC_len : exC.length = 17 := by
  unfold exC; rw [List.length_append, List.length_map, exA_len, List.length_take, ex2_len]; rfl
theorem exC_crash : crashR exB 8 9 = exC := by
  unfold crashR
  rw [exB_len]
  show exB.take 17 = exC
  unfold exB exC
  rw [show (17 : Nat) = exA.length + 9 by rw [exA_len], List.take_length_add_append, List.map_take]
theorem ex_all : openE 64 [] = 0 ∧ allM [] = [] ∧ segOf [] = 0 := by
  have hf : filesOf [] = [] := by
    cases h : filesOf [] with
    | nil => rfl
    | cons f r =>
      have : f ∈ filesOf [] := by rw [h]; exact List.mem_cons_self
      rw [mem_filesOf] at this
      cases this
  have hs : segOf [] = 0 := segOf_nil (by rw [hf]; rfl)
  refine ⟨?_, ?_, hs⟩
  · unfold openE
    rw [hs]
    rfl
  · unfold allM
    rw [hf]
    rfl
theorem exA_bytes : bytesOf 0 exA = recB ex1 := bytesOf_same 0 _
theorem exC_b0 : bytesOf 0 exC = recB ex1 := by
  unfold exC
  rw [bytesOf_append, exA_bytes, bytesOf_other (by decide), List.append_nil]
theorem exC_b1 : bytesOf 1 exC = (recB ex2).take 9 := by
  unfold exC exA
  rw [bytesOf_append, bytesOf_other (by decide), bytesOf_same, List.nil_append]
theorem exC_mem (x : Int) : (x ∈ [(0 : Int), 1]) ↔ x ∈ filesOf exC := by
  rw [mem_filesOf, ← bytesOf_mem]
  simp only [List.mem_cons, List.not_mem_nil, or_false]
  constructor
  · rintro (rfl | rfl)
    · rw [exC_b0]
      intro h
      have := congrArg List.length h
      rw [ex1_len] at this
      cases this
    · rw [exC_b1]
      intro h
      have := congrArg List.length h
      rw [List.length_take, ex2_len] at this
      cases this
  · intro h
    by_cases h0 : x = 0
    · exact .inl h0
    · by_cases h1 : x = 1
      · exact .inr h1
      · exfalso
        apply h
        unfold exC exA
        rw [bytesOf_append, bytesOf_other h0, bytesOf_other h1]
        rfl
theorem exC_files : filesOf exC = [0, 1] := rising_eq (filesOf_rising _) (by decide) fun x => (exC_mem x).symm
theorem exC_ok : RowsOk exC := by
  have h1 : RowsOk ([] : DR) := fun r hr => by cases hr
  have h2 := h1.app (f := 0) ⟨by decide, by decide⟩ (recB_bytes ex1_ok)
  exact h2.app (f := 1) ⟨by decide, by decide⟩ (isBytes_take 9 (recB_bytes ex2_ok))
theorem exC_open : openE 64 exC = 0 ∧ segOf exC = 2 ∧ allM exC = [ex1] := by
  have hs : segOf exC = 2 := by
    unfold segOf
    rw [exC_files]
    rfl
  refine ⟨?_, hs, ?_⟩
  · unfold openE
    rw [hs]
    rfl
  · unfold allM
    rw [exC_files]
    simp only [List.flatMap_cons, List.flatMap_nil, exC_b0, exC_b1]
    have h1 := scanM_recs (rs := [ex1]) (fun r hr => by rw [List.mem_singleton] at hr; subst hr; exact ex1_ok)
    simp only [List.flatMap_cons, List.flatMap_nil, List.append_nil] at h1
    rw [h1, scanM_none (oneM_part ex2_ok (by rw [ex2_len]; decide))]
    rfl
theorem exC_drop : dropR 3 exC = [] := by
  unfold dropR
  refine List.filter_eq_nil_iff.2 fun r hr => ?_
  have h1 : r.1 = 0 ∨ r.1 = 1 := by
    unfold exC exA at hr
    rcases List.mem_append.1 hr with hr | hr
    · obtain ⟨b, _, rfl⟩ := List.mem_map.1 hr; exact .inl rfl
    · obtain ⟨b, _, rfl⟩ := List.mem_map.1 hr; exact .inr rfl
  simp only [decide_eq_true_eq]
  omega
abbrev exS0 : RL := ⟨64, 0, 0, 0⟩
theorem ex_app1 : appE [] exS0 ex1 = 0 ∧ appN [] exS0 ex1 = 0 ∧ appS [] exS0 ex1 = ⟨64, 0, 1, 0⟩ ∧ appRows [] exS0 ex1 = exA := by
  have ht : turns [] exS0 (recB ex1).length = false := rfl
  have he : appE [] exS0 ex1 = 0 := by
    unfold appE
    rw [Go.Proofs.Ytomdcdfcdeaabaa.bytesE_of ex1_ok, if_neg (by decide), ht]; rfl
  have hs : appS [] exS0 ex1 = ⟨64, 0, 1, 0⟩ := by unfold appS; rw [if_neg (by rw [he]; decide), ht]; rfl
  refine ⟨he, ?_, hs, ?_⟩
  · unfold appN; rw [if_neg (by rw [he]; decide)]; rfl
  · unfold appRows; rw [if_neg (by rw [he]; decide), hs]; rfl
abbrev exS1 : RL := ⟨64, 0, 1, 1⟩
theorem ex_app2 : appE exA exS1 ex2 = 0 ∧ appN exA exS1 ex2 = 1 ∧ appS exA exS1 ex2 = ⟨64, 1, 2, 1⟩ ∧ appRows exA exS1 ex2 = exB := by
  have ht : turns exA exS1 (recB ex2).length = true := by
    unfold turns
    rw [show exS1.seg = 0 from rfl, exA_bytes, ex1_len, ex2_len]; rfl
  have he : appE exA exS1 ex2 = 0 := by
    unfold appE
    rw [Go.Proofs.Ytomdcdfcdeaabaa.bytesE_of ex2_ok, if_neg (by decide), if_neg (by intro h; cases h.2)]
  have hs : appS exA exS1 ex2 = ⟨64, 1, 2, 1⟩ := by unfold appS; rw [if_neg (by rw [he]; decide), ht]; rfl
  refine ⟨he, ?_, hs, ?_⟩
  · unfold appN; rw [if_neg (by rw [he]; decide)]; rfl
  · unfold appRows; rw [if_neg (by rw [he]; decide), hs]; rfl
theorem ex_scan : scanM (recB ex1 ++ (recB ex1).take 5) = ([ex1], 8) := by
  have h1 := scanM_whole (rs := [ex1]) (t := (recB ex1).take 5) (fun r hr => by rw [List.mem_singleton] at hr; subst hr; exact ex1_ok) (isBytes_take 5 (recB_bytes ex1_ok)) (oneM_part ex1_ok (by rw [ex1_len]; decide))
  simp only [List.flatMap_cons, List.flatMap_nil, List.append_nil] at h1
  rw [h1, ex1_len]
end Go.Nm
namespace Go.Proofs.Ytomdcdfcdeaabaa
open Go Go.Nm Go.Proofs
section
variable {F L : List Assn} {H : Heap} {K : Value → Heap → Prop}
theorem map_one {α β : Type} {f : α → β} {x : β} : ∀ {l : List α}, l.map f = [x] → ∃ r, l = [r] ∧ f r = x
  | [r], h => ⟨r, rfl, by simpa using h⟩
theorem madeCells_one (v : Value) (n : Nat) : madeCells #[v] n = (List.replicate n v).toArray := by
  unfold madeCells
  refine Array.ext (by simp) fun i h1 h2 => ?_
  simp [Nat.mod_one]
theorem slA_cat {a : Option Addr} {c m : Nat} {xs ys : List Int} (hm : m = ys.length) (h : SatL H (slA 5 1 a (xs.length + m) c (xs.map U8 ++ ys.map U8) :: L)) : SatL H (slA 5 1 a (xs ++ ys).length c ((xs ++ ys).map U8) :: L) := by
  rw [List.length_append, List.map_append, ← hm]
  exact h
theorem make70 (h : SatL H L) (k : ∀ a c H', SatL H' (slA 5 1 a 70 c (ex2.data.map U8) :: L) → K (.slice a 70 c) H') : RunW Try.prog (Instr.makeSlice 32 (.int .i64 70) (.int .i64 70)) H K := by
  intro w hw
  subst hw
  obtain ⟨i, z, hi, hz, h1, h2, h3⟩ := sl32.info
  have hc : madeCells z.cells (Int.toNat 70 * i.size) = (ex2.data.map U8).toArray := by
    have : Try.prog.info? 5 = some i := hi
    have e2 : (Try.prog.info? 5).map (fun i => (i.zero, i.size)) = some (some (.int .u8 0), 1) := by kernel_rfl
    rw [this, Option.map_some, hz] at e2
    simp only [Option.some.injEq, Prod.mk.injEq] at e2
    rw [e2.1, e2.2]
    have e3 : ex2.data.map U8 = List.replicate 70 (U8 0) := List.map_replicate ..
    rw [e3]
    exact madeCells_one _ _
  have hr := run_make (P := Try.prog) w 32 5 i z (by kernel_rfl) hi hz .i64 .i64 70 70 (by decide) (by decide) (by rw [h2]; decide) (by decide)
  rw [hc] at hr
  refine ⟨_, _, hr, ⟨rfl, rfl, rfl⟩, k _ _ _ ?_⟩
  exact SatL.sl_pt (h.push (.cells (ex2.data.map U8).toArray 5)) 1 70 rfl

theorem alive28_spec (h : SatL H F) (k : ∀ H', SatL H' F → K (.bool true) H') : CallF Try.prog 28 #[] H K := by
  refine alive_28.call ?_
  unfold alive_28.code
  have c32 := fun {H : Heap} {L : List Assn} {K : Value → Heap → Prop} {b n c : Nat} {cs : List Value} => conv_same (P := Try.prog) (t := 32) (e := 5) (H := H) (L := L) (K := K) (b := b) (n := n) (c := c) (cs := cs) Try.underlying32 Try.underlying5
  have ok0 : RowsOk ([] : DR) := fun r hr => by cases hr
  refine New_spec h fun db H1 h => ⟨_, rfl, (fun hf => by cases hf), fun _ => ?_⟩
  obtain ⟨x1, x2, x3⟩ := ex_all
  refine Open_spec ok0 (by decide) h (fun _ rs a1 c1 rb H2 hrs h => ⟨_, _, _, _, _, rfl, (fun hf => by cases hf), fun _ => ?_⟩) fun hf => absurd x1 hf
  rw [x2] at hrs
  have hrs : rs = [] := by simpa using hrs
  subst hrs
  unfold opS at h
  rw [x2, x3] at h
  refine h.al fun b _ h => c32 h fun H2 h => ⟨_, _, _, rfl, ?_⟩
  refine h.al fun b1 _ h => c32 h fun H3 h => ⟨_, _, _, rfl, ?_⟩
  refine h.al fun b2 _ h => ?_
  have s0ok : exS0.ok := ⟨by decide, by decide, by decide, by decide⟩
  have efl : ([⟨some ⟨b, 0, none⟩, 1, [97]⟩, ⟨some ⟨b1, 0, none⟩, 1, [98]⟩] : List Fy).flatMap Fy.bs = [97, 98] := rfl
  have h : SatL _ (reelA rb db exS0 :: diskX db [] 0 :: cellsA b2 [.slice (some ⟨b, 0, none⟩) 1 1, .slice (some ⟨b1, 0, none⟩) 1 1] 32 :: litA b1 [U8 98] 5 :: litA b [U8 97] 5 :: F) := h.ordt [3, 6, 0, 1, 2] 7 (by decide) (by decide)
  refine AppendR_spec (kind := 1) (c := 2) (parts := [⟨some ⟨b, 0, none⟩, 1, [97]⟩, ⟨some ⟨b1, 0, none⟩, 1, [98]⟩]) s0ok (Nat.le_of_ble_eq_true rfl) h (fun H h => h.ce_rd 0 rfl) (fun H h y hy => ?_) (fun x hx => ?_) (Nat.le_of_ble_eq_true rfl) (Nat.le_of_ble_eq_true rfl) fun H4 h => ⟨_, _, rfl, ?_⟩
  · simp only [List.mem_cons, List.not_mem_nil, or_false] at hy
    rcases hy with rfl | rfl
    · exact h.lit_rd 2 rfl
    · exact h.lit_rd 1 rfl
  · exact ex1_ok.by' x hx
  obtain ⟨y1, y2, y3, y4⟩ := ex_app1
  rw [efl] at h ⊢
  rw [show (⟨1, [97, 98]⟩ : Rc) = ex1 from rfl] at h ⊢
  rw [y3, y4] at h
  rw [y1, y2]
  have h : SatL H4 (reelA rb db ⟨64, 0, 1, 0⟩ :: diskX db exA 0 :: F) := h.ordt [0, 1] 5 (by decide) (by decide)
  refine RSyncR_spec h fun H5 h => ⟨rfl, _, Synced_spec h, ?_⟩
  rw [exA_len] at h
  have h : SatL H5 (reelA rb db exS1 :: diskX db exA 8 :: F) := h
  refine make70 h fun a6 c6 H6 h => ⟨_, _, _, rfl, ?_⟩
  refine h.al fun b3 _ h => ?_
  have s1ok : exS1.ok := ⟨by decide, by decide, by decide, by decide⟩
  have efl2 : ([⟨a6, c6, ex2.data⟩] : List Fy).flatMap Fy.bs = ex2.data := by simp
  have h : SatL _ (reelA rb db exS1 :: diskX db exA 8 :: cellsA b3 [.slice a6 70 c6] 32 :: slA 5 1 a6 70 c6 (ex2.data.map U8) :: F) := h.ordt [2, 3, 0, 1] 4 (by decide) (by decide)
  refine AppendR_spec (kind := 2) (c := 1) (parts := [⟨a6, c6, ex2.data⟩]) s1ok (by rw [exA_len]; decide) h (fun H h => h.ce_rd 0 rfl) (fun H h y hy => ?_) (fun x hx => ?_) (Nat.le_of_ble_eq_true rfl) (by rw [efl2]; decide) fun H7 h => ⟨_, _, rfl, ?_⟩
  · rw [List.mem_singleton] at hy
    subst hy
    exact h.sl_rd 1 rfl
  · rw [efl2] at hx
    exact ex2_ok.by' x hx
  obtain ⟨z1, z2, z3, z4⟩ := ex_app2
  rw [efl2] at h ⊢
  rw [show (⟨2, ex2.data⟩ : Rc) = ex2 from rfl] at h ⊢
  rw [z3, z4] at h
  rw [z1, z2]
  refine Crash_spec (F := reelA rb db ⟨64, 1, 2, 1⟩ :: F) (keep := 9) ⟨by decide, by decide⟩ (by rw [exB_len]; decide) (h.ordt [1, 0] 4 (by decide) (by decide)) fun H8 h => ⟨rfl, ?_⟩
  rw [exC_crash] at h
  have h : SatL H8 (diskX db exC exC.length :: F) := h.ordt [0] 2 (by decide) (by decide)
  obtain ⟨w1, w2, w3⟩ := exC_open
  refine Open_spec exC_ok (by rw [exC_len]; decide) h (fun _ rs a9 c9 qb H9 hrs h => ⟨_, _, _, _, _, rfl, (fun hf => by cases hf), fun _ => ?_⟩) fun hf => absurd w1 hf
  rw [w3] at hrs
  obtain ⟨r, rfl, hr⟩ := map_one hrs
  have hrk : r.kind = 1 := congrArg Rc.kind hr
  have hrb : r.y.bs = [97, 98] := congrArg Rc.data hr
  unfold opS at h
  rw [w2, w3] at h
  refine h.al fun b4 _ h => c32 h fun H10 h => ⟨_, _, _, rfl, ?_⟩
  refine Bytes_spec (kind := 1) (a := some ⟨b4, 0, none⟩) (c := 2) (bs := [97, 98]) h (fun H h => h.lit_rd 0 rfl) (.inr ⟨_, _, rfl⟩) ex1_ok.by' (by decide) (fun a11 c11 H11 _ h => ⟨_, _, _, _, rfl, ?_⟩) fun H11 hf => absurd (show bytesE 1 2 = 0 by decide) hf
  rw [show (⟨1, [97, 98]⟩ : Rc) = ex1 from rfl] at h ⊢
  have hnc := h.sl_nc 0 rfl
  have hl1 := ex1_len
  refine ⟨⟨by decide, by decide, by omega⟩, ?_⟩
  refine CopyBytes_own h (fun H h => h.sl_rd 0 rfl) (by omega) fun a12 c12 H12 h => ⟨_, _, _, rfl, ?_⟩
  have hr5 := ((h.sl_rd 1 rfl).take 5).sb0 (m := c11)
  rw [← List.map_take] at hr5
  have ht5 : ((recB ex1).take 5).length = 5 := by rw [List.length_take, hl1]; rfl
  refine SatL.append (m := 5) (ws := ((recB ex1).take 5).map U8) sl32 h 0 rfl hr5 (by rw [List.length_map, ht5]) (plain_map (fun _ => rfl) _) (by omega) (by omega) fun a13 c13 H13 h => ⟨_, _, _, rfl, ?_⟩
  have ecat : (recB ex1).length + 5 = (recB ex1 ++ (recB ex1).take 5).length := by rw [List.length_append, ht5]
  have h := slA_cat ht5.symm h
  rw [ecat]
  refine scan_spec h (fun H h => h.sl_rd 0 rfl) (isBytes_append (recB_bytes ex1_ok) (isBytes_take 5 (recB_bytes ex1_ok))) (by rw [← ecat]; omega) fun qs a14 c14 H14 hqs h => ⟨_, _, _, _, rfl, ?_⟩
  rw [ex_scan] at hqs ⊢
  have hql : qs.length = 1 := by
    have := congrArg List.length hqs
    simpa using this
  rw [hql, hl1]
  refine ⟨(fun hf => by cases hf), fun _ => ?_⟩
  have h := h.ordt [5, 8, 6, 7, 3] 9 (by decide) (by decide)
  have h : SatL H14 (reelA qb db ⟨64, 2, 1, 1⟩ :: diskX db exC exC.length :: slA 52 2 a9 1 c9 (flat encR [r]) :: rowsR [r] :: slA 5 1 a11 (recB ex1).length c11 ((recB ex1).map U8) :: F) := h
  refine Turn_spec (by decide) h (fun hf => by cases hf) fun _ H15 h => ⟨_, _, rfl, ?_⟩
  have h : SatL H15 (reelA qb db ⟨64, 3, 1, 1⟩ :: diskX db exC exC.length :: slA 52 2 a9 1 c9 (flat encR [r]) :: rowsR [r] :: slA 5 1 a11 (recB ex1).length c11 ((recB ex1).map U8) :: F) := h
  refine DropR_spec (by rw [exC_len]; decide) (Nat.le_refl _) h (fun hf => absurd hf (Nat.lt_irrefl _)) fun _ H16 h => ⟨_, rfl, fun Jn hJ => ?_⟩
  have h : SatL H16 (reelA qb db ⟨64, 3, 1, 1⟩ :: diskX db (dropR 3 exC) (dropR 3 exC).length :: slA 52 2 a9 1 c9 (flat encR [r]) :: rowsR [r] :: slA 5 1 a11 (recB ex1).length c11 ((recB ex1).map U8) :: F) := h
  rw [exC_drop] at h
  have q1 := h.sl_rd 2 rfl
  have q2 := rowsR_rd (h.ordt [3] 5 (by decide) (by decide)) r (by simp)
  have e0 := q1.some encR_len (by decide) (show 0 < [r].length from Nat.zero_lt_one)
  have e1 := q1.el0 encR_len (show 0 < [r].length from Nat.zero_lt_one) (v := .int .i64 r.kind) rfl
  have e2 := q1.el encR_len (show 0 < [r].length from Nat.zero_lt_one) 1 (v := encY r.y) rfl
  refine ⟨fun _ => ⟨by decide, Int.zero_lt_one⟩, _, _, fun _ => e0, _, fun _ => e1, fun _ => ⟨by decide, Int.zero_lt_one⟩, _, _, fun _ => e0, _, _, _, fun _ => e2, fun _ => ?_, fun hf => absurd (by rw [hrk]; decide) hf⟩
  refine h.al fun b7 _ h => c32 h fun H17 h => ⟨_, _, _, rfl, ?_⟩
  have q2' : rdS H17 r.y.a (r.y.bs.map U8) := rowsR_rd (h.ordt [4] 6 (by decide) (by decide)) r (by simp)
  have hx0 := (h.sl_rd 5 rfl) 0 (U8 7) (by rw [lget_map', lget_eq', ex1_head]; rfl)
  refine ⟨_, SameBytes_spec (d := 2) (ys := [97, 98]) q2' (h.lit_rd 0 rfl) (by rw [hrb]; decide), ?_⟩
  rw [decide_eq_true hrb]
  have h2 : SatL H17 (reelA qb db ⟨64, 3, 1, 1⟩ :: diskX db [] 0 :: F) := h.ordt [1, 2] 6 (by decide) (by decide)
  refine ⟨fun _ => ⟨by decide, by decide⟩, _, _, fun _ => hx0.1, _, fun _ => hx0.2, _, fun _ => Segment_spec h2, _, fun _ => Next_spec h2, fun _ => ?_, fun hf => absurd (by decide) hf⟩
  refine Size_spec (F := reelA qb db ⟨64, 3, 1, 1⟩ :: F) (by decide) (h2.ordt [1, 0] 2 (by decide) (by decide)) fun H18 h => ⟨_, rfl, hJ _ _ ?_⟩
  unfold alive_28.r1
  exact k _ h.tl.tl
end
end Go.Proofs.Ytomdcdfcdeaabaa
namespace Go.Proofs.Ytomdcdfcdeaabaa
open Go Go.Nm Go.Proofs
section
variable {F L : List Assn} {H : Heap} {K : Value → Heap → Prop}
def bytesR (kind : Int) (bs : List Int) : List Int := if bytesE kind bs.length = 0 then recB ⟨kind, bs⟩ else []
theorem rowsR_is : ∀ {rs : List Ry} {H : Heap} {F : List Assn}, SatL H (rowsR rs :: F) → ∀ r ∈ rs, r.y.a = none ∨ ∃ b o, r.y.a = some ⟨b, o, none⟩
  | [], _, _, _, r, hr => by cases hr
  | x :: rs, H, F, h, r, hr => by
    have h2 : SatL H (rowY x.y :: rowsR rs :: F) := satL_sep.1 h
    rcases List.mem_cons.1 hr with rfl | hr
    · exact slA_is h2
    · exact rowsR_is h2.tl r hr
theorem Bytes_any {kind : Int} {a : Option Addr} {c : Nat} {bs : List Int} (h : SatL H F) (hF : ∀ H, SatL H F → rdS H a (bs.map U8)) (hA : a = none ∨ ∃ b o, a = some ⟨b, o, none⟩) (hb : isBytes bs) (hl : bs.length ≤ 1099511627776)
    (k : ∀ a' c' H', SatL H' (slA 5 1 a' (bytesR kind bs).length c' ((bytesR kind bs).map U8) :: F) → K (.tuple #[.slice a' (bytesR kind bs).length c', .int .i64 (bytesE kind bs.length)]) H') :
    CallF Try.prog 29 #[.agg #[.int .i64 kind, .slice a bs.length c]] H K := by
  refine Bytes_spec h hF hA hb hl (fun a' c' H' he h => ?_) fun H' he h => ?_
  · have := k a' c' H'
    unfold bytesR at this
    rw [if_pos he, he] at this
    exact this h
  · have := k none 0 H'
    unfold bytesR at this
    rw [if_neg he] at this
    exact this (h.sl_nil 5 1)
theorem RBytes_any {kind : Int} {a : Option Addr} {c : Nat} {bs : List Int} (h : SatL H F) (hF : ∀ H, SatL H F → rdS H a (bs.map U8)) (hb : isBytes bs) (hl : bs.length ≤ 1099511627776)
    (k : ∀ a' c' H', SatL H' (slA 5 1 a' (bytesR kind bs).length c' ((bytesR kind bs).map U8) :: F) → K (.tuple #[.slice a' (bytesR kind bs).length c', .int .i64 (bytesE kind bs.length)]) H') :
    CallF Try.prog 31 #[.int .i64 kind, .slice a bs.length c] H K := by
  refine RBytes_spec h hF hb hl (fun a' c' H' he h => ?_) fun H' he h => ?_
  · have := k a' c' H'
    unfold bytesR at this
    rw [if_pos he, he] at this
    exact this h
  · have := k none 0 H'
    unfold bytesR at this
    rw [if_neg he] at this
    exact this (h.sl_nil 5 1)
theorem bytesR_len {kind : Int} {bs : List Int} (hb : isBytes bs) : (bytesR kind bs).length ≤ 300000 := by
  unfold bytesR
  split
  · rename_i h
    have := recB_len (bytesE_ok hb h)
    omega
  · simp
end
theorem ReelBytes_true {H0 : Heap} {da ba : Option Addr} {dc bc : Nat} {d bs : List Int} {kind : Int} (hd : rdS H0 da (d.map U8)) (hdb : isBytes d) (hbc : bs.length ≤ bc) (hbr : rdS H0 ba (bs.map U8)) (hbb : isBytes bs) :
    CallF Try.prog 7 #[.int .i64 kind, .slice da d.length dc, .slice ba bs.length bc] H0 fun v H' => v = .bool true ∧ Grow H0 H' := by
  refine ReelBytes.call ?_
  unfold ReelBytes.code
  refine alive28_spec (sat0 H0) fun H1 h => ⟨_, rfl, (fun hf => by cases hf), fun _ => ⟨fun _ => ⟨rfl, h.old_grow 0 rfl⟩, fun hx => ?_⟩⟩
  have hl : d.length ≤ 3000 ∧ bs.length ≤ 3000 := by simp at hx; omega
  have rdd : ∀ H, SatL H [old H0] → rdS H da (d.map U8) := fun H h => h.old_rd 0 rfl hd
  refine CopyBytes_own h rdd (by omega) fun a1 c1 H2 h => ⟨_, _, _, rfl, ?_⟩
  have hbl := bytesR_len (kind := kind) hdb
  refine Bytes_any h (fun H h => h.sl_rd 0 rfl) (slA_is h) hdb (by omega) fun a2 c2 H3 h => ⟨_, _, _, _, rfl, ?_⟩
  refine RBytes_any h (fun H h => h.old_rd 2 rfl hd) hdb (by omega) fun a3 c3 H4 h => ⟨_, _, _, _, rfl, ?_⟩
  refine CopyBytes_own h (fun H h => h.old_rd 3 rfl hbr) (by omega) fun a4 c4 H5 h => ⟨_, _, _, rfl, ?_⟩
  refine scan_spec h (fun H h => h.sl_rd 0 rfl) hbb (by omega) fun rs a5 c5 H6 hrs h => ⟨_, _, _, _, rfl, ?_⟩
  refine rscan_spec h (fun H h => h.old_rd 6 rfl hbr) hbb (by omega) hbc fun qs a6 c6 H7 hqs h => ⟨_, _, _, _, rfl, fun Jn hJ => ?_⟩
  obtain ⟨s1, s2, s3⟩ := scanM_ok (Nat.le_refl _) hbb
  have hsl := scanM_len hbb
  have hrl : rs.length ≤ bs.length := by rw [← List.length_map (f := Ry.rc), hrs]; exact hsl
  have hql : qs.length ≤ bs.length := by rw [← List.length_map (f := Ry.rc), hqs]; exact hsl
  have hrok : ∀ r ∈ rs, r.rc.ok := fun r hr => s1 _ (by rw [← hrs]; exact List.mem_map.2 ⟨r, hr, rfl⟩)
  have q := SameBytes_spec (c := c2) (d := c3) (h.sl_rd 6 rfl) (h.sl_rd 5 rfl) (by omega)
  rw [decide_eq_true rfl] at q
  refine ⟨_, fun _ => q, fun _ => ?_, fun hf => absurd (by simp) hf⟩
  refine of_spec h (fun H h => h.sl_rd 2 rfl) (by omega) fun a7 c7 H8 h => ⟨_, _, _, rfl, ?_⟩
  have hrr := rowsR_rd (h.ordt [4] 10 (by decide) (by decide))
  have q2 := Same_spec (c := c7) (d := c6) (h.sl_rd 0 rfl) (h.sl_rd 1 rfl) hrr (rowsR_rd (h.ordt [2] 10 (by decide) (by decide))) (by omega) fun r hr => by
    have := (hrok r hr).len
    unfold Ry.rc at this
    dsimp only at this
    omega
  rw [decide_eq_true (by rw [hrs, hqs])] at q2
  refine ⟨_, q2, hJ _ _ ?_⟩
  unfold ReelBytes.r2
  refine ⟨(fun hf => by cases hf), fun _ => ?_⟩
  have h : SatL H8 (slA 52 2 a5 rs.length c5 (flat encR rs) :: rowsR rs :: old H0 :: []) := h.ordt [3, 4, 9] 10 (by decide) (by decide)
  refine h.al fun b H9 h => ?_
  have h1 := SatL.sl_pt (cs := []) h 1 0 rfl
  have hbr2 : ∀ r ∈ rs, isBytes r.y.bs := fun r hr => (hrok r hr).by'
  have hpre : ∀ j, (((rs.take j).map Ry.rc).flatMap recB).length ≤ bs.length := by
    intro j
    have e1 : ((rs.map Ry.rc).flatMap recB).length ≤ bs.length := by rw [hrs, s3, List.length_take]; omega
    rw [List.map_take]
    exact Nat.le_trans (flatMap_take_le _ _ _) e1
  refine ⟨fun oa on oc i H' => ∃ j : Nat, i = j ∧ j ≤ rs.length ∧ on = (((rs.take j).map Ry.rc).flatMap recB).length ∧ SatL H' (slA 5 1 oa (((rs.take j).map Ry.rc).flatMap recB).length oc ((((rs.take j).map Ry.rc).flatMap recB).map U8) :: slA 52 2 a5 rs.length c5 (flat encR rs) :: rowsR rs :: old H0 :: []),
    fun _ _ _ i _ => rs.length - i.toNat, ⟨0, rfl, Nat.zero_le _, rfl, h1⟩, ?_⟩
  rintro oa on oc i H10 ⟨j, rfl, hj, rfl, h⟩
  unfold ReelBytes.l1
  refine ⟨fun hx => ?_, fun hx => ?_⟩
  · have hlt : j < rs.length := by simpa using hx
    have hr := h.sl_rd 1 rfl
    have hm := List.getElem_mem hlt
    refine ⟨⟨by omega, by omega⟩, _, _, hr.some encR_len (by omega) hlt, _, _, _, _, hr.els encR_len hlt, ?_⟩
    have hry : ∀ H, SatL H (slA 5 1 oa (((rs.take j).map Ry.rc).flatMap recB).length oc ((((rs.take j).map Ry.rc).flatMap recB).map U8) :: slA 52 2 a5 rs.length c5 (flat encR rs) :: rowsR rs :: old H0 :: []) → rdS H rs[j].y.a (rs[j].y.bs.map U8) := fun H h => rowsR_rd h.tl.tl _ hm
    have hylen : rs[j].y.bs.length ≤ 262144 := (hrok _ hm).len
    have he : bytesE rs[j].kind rs[j].y.bs.length = 0 := bytesE_of (hrok _ hm)
    have hAj : rs[j].y.a = none ∨ ∃ b o, rs[j].y.a = some ⟨b, o, none⟩ := rowsR_is h.tl.tl _ hm
    refine Bytes_any h hry hAj (hbr2 _ hm) (by omega) fun a8 c8 H11 h => ⟨_, _, _, _, rfl, (fun hf => by rw [he] at hf; cases hf), fun _ => ?_⟩
    have eR : bytesR rs[j].kind rs[j].y.bs = recB rs[j].rc := by unfold bytesR; rw [if_pos he]; rfl
    rw [eR] at h ⊢
    have hp1 := hpre (j + 1)
    have efl : ((rs.take (j + 1)).map Ry.rc).flatMap recB = ((rs.take j).map Ry.rc).flatMap recB ++ recB rs[j].rc := by
      rw [List.take_succ_eq_append_getElem hlt, List.map_append, List.flatMap_append]
      simp
    rw [efl, List.length_append] at hp1
    refine SatL.append (m := (recB rs[j].rc).length) (ws := (recB rs[j].rc).map U8) sl32 h 1 rfl (h.sl_rd 0 rfl) (by simp) (plain_map (fun _ => rfl) _) (by omega) (by omega) fun a9 c9 H12 h => ⟨_, _, _, rfl, ?_⟩
    rw [w64 (x := (j : Int) + 1) (by omega) (by omega)]
    refine ⟨⟨j + 1, rfl, hlt, by rw [efl, List.length_append], ?_⟩, by simp only [Int.toNat_natCast]; omega⟩
    rw [efl]
    exact slA_cat rfl (h.ordt [1, 2, 3] 4 (by decide) (by decide))
  · have hj2 : j = rs.length := by simp at hx; omega
    subst hj2
    rw [List.take_length, hrs, s3] at h ⊢
    have hbr3 : rdS H10 (slB ba 0 bc 1) ((bs.take (scanM bs).2).map U8) := by
      have := ((h.old_rd 3 rfl hbr).take (scanM bs).2).sb0 (m := bc)
      rwa [← List.map_take] at this
    have q3 := SameBytes_spec (c := oc) (d := bc) (h.sl_rd 0 rfl) hbr3 (by rw [List.length_take]; omega)
    rw [decide_eq_true rfl] at q3
    have e5 : (bs.take (scanM bs).2).length = (scanM bs).2 := by rw [List.length_take]; omega
    rw [e5] at q3 ⊢
    exact ⟨⟨by omega, by omega, by omega⟩, _, q3, rfl, h.old_grow 3 rfl⟩
theorem reads_bytesC {H : Type} {enc : TypeId × Value → H} {W : World} {cs : List Value} (h : Reads enc Try.prog W 32 cs) :
    ∃ a c bs, cs = [.slice a (List.length bs) c] ∧ bs.length ≤ c ∧ rdS W.heap a (bs.map U8) ∧ isBytes bs := by
  obtain ⟨a, n, c, e1, h1, h2, _⟩ := reads_slice Try.underlying32 (by rw [show Try.prog.cellsOf 5 = 1 by kernel_rfl]; decide) h
  obtain ⟨a', c', bs, e2, h3, h4, h5⟩ := reads_bytes h
  rw [e1] at e2
  simp only [List.cons.injEq, Value.slice.injEq, and_true] at e2
  obtain ⟨rfl, rfl, rfl⟩ := e2
  exact ⟨a, c, bs, e1, h1, h4, fun x hx => by have := h5 x hx; omega⟩
end Go.Proofs.Ytomdcdfcdeaabaa
