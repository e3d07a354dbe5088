/-
  The reel's example. The reel's example, run. ReelBytes.
-/
import Derived.Test.YtomdcdfcdeaabaaGreatRN
import Derived.Test.YtomdcdfcdeaabaaGreatT2
import Derived.Laws.MakeOwn
set_option linter.unusedVariables false
set_option linter.unusedSimpArgs false
namespace Go.Nm
open Go
def ex1 : Rc := ⟨1, [97, 98]⟩
def ex2 : Rc := ⟨2, List.replicate 70 0⟩
theorem ex1_ok : ex1.ok := ⟨by decide, by decide, by decide, fun x hx => by
  simp only [ex1, List.mem_cons, List.not_mem_nil, or_false] at hx
  omega⟩
theorem ex2_ok : ex2.ok := ⟨by decide, by decide, by decide, fun x hx => by
  have := List.eq_of_mem_replicate hx
  omega⟩
theorem bodyB_lenE (r : Rc) : (bodyB r).length = (uintB r.kind.toNat).length + r.data.length + 4 := by unfold bodyB; rw [sealB_len, List.length_append]
theorem ex1_body : (bodyB ex1).length = 7 := by
  rw [bodyB_lenE, show ex1.kind.toNat = 1 from rfl, uintB_lt (by decide)]; rfl
theorem ex2_body : (bodyB ex2).length = 75 := by
  rw [bodyB_lenE, show ex2.kind.toNat = 2 from rfl, uintB_lt (by decide)]; rfl
theorem ex1_len : (recB ex1).length = 8 := by
  unfold recB
  rw [ex1_body, uintB_lt (by decide), List.length_append, ex1_body]; rfl
theorem ex2_len : (recB ex2).length = 76 := by
  unfold recB
  rw [ex2_body, uintB_lt (by decide), List.length_append, ex2_body]; rfl
theorem ex1_head : (recB ex1)[0]? = some 7 := by
  unfold recB
  rw [ex1_body, uintB_lt (by decide)]; rfl
def exA : DR := (recB ex1).map fun b => (0, b)
def exB : DR := exA ++ (recB ex2).map fun b => (1, b)
def exC : DR := exA ++ ((recB ex2).take 9).map fun b => (1, b)
theorem exA_len : exA.length = 8 := by unfold exA; rw [List.length_map, ex1_len]
theorem exB_len : exB.length = 84 := by unfold exB; rw [List.length_append, List.length_map, exA_len, ex2_len]
theorem exC_len : exC.length = 17 := by
  unfold exC; rw [List.length_append, List.length_map, exA_len, List.length_take, ex2_len]; rfl
theorem exC_crash : crashR exB 8 9 = exC := by
  unfold crashR
  rw [exB_len]
  show exB.take 17 = exC
  unfold exB exC
  rw [show (17 : Nat) = exA.length + 9 by rw [exA_len], List.take_length_add_append, List.map_take]
theorem ex_all : openE 64 [] = 0 ∧ allM [] = [] ∧ segOf [] = 0 := by
  have hf : filesOf [] = [] := by
    cases h : filesOf [] with
    | nil => rfl
    | cons f r =>
      have : f ∈ filesOf [] := by rw [h]; exact List.mem_cons_self
      rw [mem_filesOf] at this
      cases this
  have hs : segOf [] = 0 := segOf_nil (by rw [hf]; rfl)
  refine ⟨?_, ?_, hs⟩
  · unfold openE
    rw [hs]
    rfl
  · unfold allM
    rw [hf]
    rfl
theorem exA_bytes : bytesOf 0 exA = recB ex1 := bytesOf_same 0 _
theorem exC_b0 : bytesOf 0 exC = recB ex1 := by
  unfold exC
  rw [bytesOf_append, exA_bytes, bytesOf_other (by decide), List.append_nil]
theorem exC_b1 : bytesOf 1 exC = (recB ex2).take 9 := by
  unfold exC exA
  rw [bytesOf_append, bytesOf_other (by decide), bytesOf_same, List.nil_append]
theorem exC_mem (x : Int) : (x ∈ [(0 : Int), 1]) ↔ x ∈ filesOf exC := by
  rw [mem_filesOf, ← bytesOf_mem]
  simp only [List.mem_cons, List.not_mem_nil, or_false]
  constructor
  · rintro (rfl | rfl)
    · rw [exC_b0]
      intro h
      have := congrArg List.length h
      rw [ex1_len] at this
      cases this
    · rw [exC_b1]
      intro h
      have := congrArg List.length h
      rw [List.length_take, ex2_len] at this
      cases this
  · intro h
    by_cases h0 : x = 0
    · exact .inl h0
    · by_cases h1 : x = 1
      · exact .inr h1
      · exfalso
        apply h
        unfold exC exA
        rw [bytesOf_append, bytesOf_other h0, bytesOf_other h1]
        rfl
theorem exC_files : filesOf exC = [0, 1] := rising_eq (filesOf_rising _) (by decide) fun x => (exC_mem x).symm
theorem exC_ok : RowsOk exC := by
  have h1 : RowsOk ([] : DR) := fun r hr => by cases hr
  have h2 := h1.app (f := 0) ⟨by decide, by decide⟩ (recB_bytes ex1_ok)
  exact h2.app (f := 1) ⟨by decide, by decide⟩ (isBytes_take 9 (recB_bytes ex2_ok))
theorem exC_open : openE 64 exC = 0 ∧ segOf exC = 2 ∧ allM exC = [ex1] := by
  have hs : segOf exC = 2 := by
    unfold segOf
    rw [exC_files]
    rfl
  refine ⟨?_, hs, ?_⟩
  · unfold openE
    rw [hs]
    rfl
  · unfold allM
    rw [exC_files]
    simp only [List.flatMap_cons, List.flatMap_nil, exC_b0, exC_b1]
    have h1 := scanM_recs (rs := [ex1]) (fun r hr => by rw [List.mem_singleton] at hr; subst hr; exact ex1_ok)
    simp only [List.flatMap_cons, List.flatMap_nil, List.append_nil] at h1
    rw [h1, scanM_none (oneM_part ex2_ok (by rw [ex2_len]; decide))]
    rfl
theorem exC_drop : dropR 3 exC = [] := by
  unfold dropR
  refine List.filter_eq_nil_iff.2 fun r hr => ?_
  have h1 : r.1 = 0 ∨ r.1 = 1 := by
    unfold exC exA at hr
    rcases List.mem_append.1 hr with hr | hr
    · obtain ⟨b, _, rfl⟩ := List.mem_map.1 hr; exact .inl rfl
    · obtain ⟨b, _, rfl⟩ := List.mem_map.1 hr; exact .inr rfl
  simp only [decide_eq_true_eq]
  omega
abbrev exS0 : RL := ⟨64, 0, 0, 0⟩
theorem ex_app1 : appE [] exS0 ex1 = 0 ∧ appN [] exS0 ex1 = 0 ∧ appS [] exS0 ex1 = ⟨64, 0, 1, 0⟩ ∧ appRows [] exS0 ex1 = exA := by
  have ht : turns [] exS0 (recB ex1).length = false := rfl
  have he : appE [] exS0 ex1 = 0 := by
    unfold appE
    rw [Go.Proofs.YtomdcdfcdeaabaaGreat.bytesE_of ex1_ok, if_neg (by decide), ht]; rfl
  have hs : appS [] exS0 ex1 = ⟨64, 0, 1, 0⟩ := by unfold appS; rw [if_neg (by rw [he]; decide), ht]; rfl
  refine ⟨he, ?_, hs, ?_⟩
  · unfold appN; rw [if_neg (by rw [he]; decide)]; rfl
  · unfold appRows; rw [if_neg (by rw [he]; decide), hs]; rfl
abbrev exS1 : RL := ⟨64, 0, 1, 1⟩
theorem ex_app2 : appE exA exS1 ex2 = 0 ∧ appN exA exS1 ex2 = 1 ∧ appS exA exS1 ex2 = ⟨64, 1, 2, 1⟩ ∧ appRows exA exS1 ex2 = exB := by
  have ht : turns exA exS1 (recB ex2).length = true := by
    unfold turns
    rw [show exS1.seg = 0 from rfl, exA_bytes, ex1_len, ex2_len]; rfl
  have he : appE exA exS1 ex2 = 0 := by
    unfold appE
    rw [Go.Proofs.YtomdcdfcdeaabaaGreat.bytesE_of ex2_ok, if_neg (by decide), if_neg (by intro h; cases h.2)]
  have hs : appS exA exS1 ex2 = ⟨64, 1, 2, 1⟩ := by unfold appS; rw [if_neg (by rw [he]; decide), ht]; rfl
  refine ⟨he, ?_, hs, ?_⟩
  · unfold appN; rw [if_neg (by rw [he]; decide)]; rfl
  · unfold appRows; rw [if_neg (by rw [he]; decide), hs]; rfl
theorem ex_scan : scanM (recB ex1 ++ (recB ex1).take 5) = ([ex1], 8) := by
  have h1 := scanM_whole (rs := [ex1]) (t := (recB ex1).take 5) (fun r hr => by rw [List.mem_singleton] at hr; subst hr; exact ex1_ok) (isBytes_take 5 (recB_bytes ex1_ok)) (oneM_part ex1_ok (by rw [ex1_len]; decide))
  simp only [List.flatMap_cons, List.flatMap_nil, List.append_nil] at h1
  rw [h1, ex1_len]
end Go.Nm
namespace Go.Proofs.YtomdcdfcdeaabaaGreat
open Go Go.Nm Go.Proofs
section
variable {F L : List Assn} {H : Heap} {K : Value → Heap → Prop}
theorem map_one {α β : Type} {f : α → β} {x : β} : ∀ {l : List α}, l.map f = [x] → ∃ r, l = [r] ∧ f r = x
  | [r], h => ⟨r, rfl, by simpa using h⟩
theorem madeCells_one (v : Value) (n : Nat) : madeCells #[v] n = (List.replicate n v).toArray := by
  unfold madeCells
  refine Array.ext (by simp) fun i h1 h2 => ?_
  simp [Nat.mod_one]
theorem slA_cat {a : Option Addr} {c m : Nat} {xs ys : List Int} (hm : m = ys.length) (h : SatL H (slA 5 1 a (xs.length + m) c (xs.map U8 ++ ys.map U8) :: L)) : SatL H (slA 5 1 a (xs ++ ys).length c ((xs ++ ys).map U8) :: L) := by
  rw [List.length_append, List.map_append, ← hm]
  exact h
theorem make70 (h : SatL H L) (k : ∀ a c H', SatL H' (slA 5 1 a 70 c (ex2.data.map U8) :: L) → K (.slice a 70 c) H') : RunW Tryz.prog (Instr.makeSlice 32 (.int .i64 70) (.int .i64 70)) H K := by
  intro w hw
  subst hw
  obtain ⟨i, z, hi, hz, h1, h2, h3⟩ := sl32.info
  have hc : madeCells z.cells (Int.toNat 70 * i.size) = (ex2.data.map U8).toArray := by
    have : Tryz.prog.info? 5 = some i := hi
    have e2 : (Tryz.prog.info? 5).map (fun i => (i.zero, i.size)) = some (some (.int .u8 0), 1) := by kernel_rfl
    rw [this, Option.map_some, hz] at e2
    simp only [Option.some.injEq, Prod.mk.injEq] at e2
    rw [e2.1, e2.2]
    have e3 : ex2.data.map U8 = List.replicate 70 (U8 0) := List.map_replicate ..
    rw [e3]
    exact madeCells_one _ _
  have hr := run_make (P := Tryz.prog) w 32 5 i z (by kernel_rfl) hi hz .i64 .i64 70 70 (by decide) (by decide) (by rw [h2]; decide) (by decide)
  rw [hc] at hr
  refine ⟨_, _, hr, ⟨rfl, rfl, rfl⟩, k _ _ _ ?_⟩
  exact SatL.sl_pt (h.push (.cells (ex2.data.map U8).toArray 5)) 1 70 rfl

end
end Go.Proofs.YtomdcdfcdeaabaaGreat
namespace Go.Proofs.YtomdcdfcdeaabaaGreat
open Go Go.Nm Go.Proofs
section
variable {F L : List Assn} {H : Heap} {K : Value → Heap → Prop}
def bytesR (kind : Int) (bs : List Int) : List Int := if bytesE kind bs.length = 0 then recB ⟨kind, bs⟩ else []
theorem rowsR_is : ∀ {rs : List Ry} {H : Heap} {F : List Assn}, SatL H (rowsR rs :: F) → ∀ r ∈ rs, r.y.a = none ∨ ∃ b o, r.y.a = some ⟨b, o, none⟩
  | [], _, _, _, r, hr => by cases hr
  | x :: rs, H, F, h, r, hr => by
    have h2 : SatL H (rowY x.y :: rowsR rs :: F) := satL_sep.1 h
    rcases List.mem_cons.1 hr with rfl | hr
    · exact slA_is h2
    · exact rowsR_is h2.tl r hr
theorem Bytes_any {kind : Int} {a : Option Addr} {c : Nat} {bs : List Int} (h : SatL H F) (hF : ∀ H, SatL H F → rdS H a (bs.map U8)) (hA : a = none ∨ ∃ b o, a = some ⟨b, o, none⟩) (hb : isBytes bs) (hl : bs.length ≤ 1099511627776)
    (k : ∀ a' c' H', SatL H' (slA 5 1 a' (bytesR kind bs).length c' ((bytesR kind bs).map U8) :: F) → K (.tuple #[.slice a' (bytesR kind bs).length c', .int .i64 (bytesE kind bs.length)]) H') :
    CallF Tryz.prog 54 #[.agg #[.int .i64 kind, .slice a bs.length c]] H K := by
  refine Bytes_spec h hF hA hb hl (fun a' c' H' he h => ?_) fun H' he h => ?_
  · have := k a' c' H'
    unfold bytesR at this
    rw [if_pos he, he] at this
    exact this h
  · have := k none 0 H'
    unfold bytesR at this
    rw [if_neg he] at this
    exact this (h.sl_nil 5 1)
theorem RBytes_any {kind : Int} {a : Option Addr} {c : Nat} {bs : List Int} (h : SatL H F) (hF : ∀ H, SatL H F → rdS H a (bs.map U8)) (hb : isBytes bs) (hl : bs.length ≤ 1099511627776)
    (k : ∀ a' c' H', SatL H' (slA 5 1 a' (bytesR kind bs).length c' ((bytesR kind bs).map U8) :: F) → K (.tuple #[.slice a' (bytesR kind bs).length c', .int .i64 (bytesE kind bs.length)]) H') :
    CallF Tryz.prog 64 #[.int .i64 kind, .slice a bs.length c] H K := by
  refine RBytes_spec h hF hb hl (fun a' c' H' he h => ?_) fun H' he h => ?_
  · have := k a' c' H'
    unfold bytesR at this
    rw [if_pos he, he] at this
    exact this h
  · have := k none 0 H'
    unfold bytesR at this
    rw [if_neg he] at this
    exact this (h.sl_nil 5 1)
theorem bytesR_len {kind : Int} {bs : List Int} (hb : isBytes bs) : (bytesR kind bs).length ≤ 300000 := by
  unfold bytesR
  split
  · rename_i h
    have := recB_len (bytesE_ok hb h)
    omega
  · simp
end
theorem reads_bytesC {H : Type} {enc : TypeId × Value → H} {W : World} {cs : List Value} (h : Reads enc Tryz.prog W 32 cs) :
    ∃ a c bs, cs = [.slice a (List.length bs) c] ∧ bs.length ≤ c ∧ rdS W.heap a (bs.map U8) ∧ isBytes bs := by
  obtain ⟨a, n, c, e1, h1, h2, _⟩ := reads_slice Tryz.underlying32 (by rw [show Tryz.prog.cellsOf 5 = 1 by kernel_rfl]; decide) h
  obtain ⟨a', c', bs, e2, h3, h4, h5⟩ := reads_bytes h
  rw [e1] at e2
  simp only [List.cons.injEq, Value.slice.injEq, and_true] at e2
  obtain ⟨rfl, rfl, rfl⟩ := e2
  exact ⟨a, c, bs, e1, h1, h4, fun x hx => by have := h5 x hx; omega⟩
end Go.Proofs.YtomdcdfcdeaabaaGreat
