/-
  A book: its functions' contracts.
-/
import Derived.Test.YtomdcdfcdeaabaaGreatRV
import Derived.Test.YtomdcdfcdeaabaaGreatT4
set_option linter.unusedVariables false
set_option linter.unusedSimpArgs false
namespace Go.Nm
open Go
/-- What records tell: the last state, and the records behind it. -/
def tellM : List Rc → Option (List Int) × List Rc
  | [] => (none, [])
  | r :: l => if (tellM l).1 = none then (if r.kind = 0 then (some r.data, l) else (none, r :: l)) else tellM l
theorem tellM_none : ∀ {l : List Rc}, (∀ r ∈ l, r.kind ≠ 0) → tellM l = (none, l)
  | [], _ => rfl
  | r :: l, h => by
    have ih := tellM_none fun x hx => h x (List.mem_cons_of_mem _ hx)
    rw [tellM, ih, if_pos rfl, if_neg (h r List.mem_cons_self)]
theorem tellM_at {r : Rc} {l : List Rc} (hr : r.kind = 0) (h : ∀ x ∈ l, x.kind ≠ 0) : ∀ a : List Rc, tellM (a ++ r :: l) = (some r.data, l)
  | [] => by rw [List.nil_append, tellM, tellM_none h, if_pos rfl, if_pos hr]
  | x :: a => by
    have ih := tellM_at hr h a
    rw [List.cons_append, tellM, ih, if_neg (by simp)]
def bookA (bb rb : Nat) (saved : Bool) (num seg : Int) : Assn := cellsA bb [.pointer (some ⟨rb, 0, none⟩), .bool saved, .int .i64 num, .int .i64 seg] 51
structure Tells (rs : List Ry) (fy : Fy) (has : Bool) (qs : List Ry) : Prop where
  sub : ∀ q ∈ qs, q ∈ rs
  st : fy = Fy.z ∨ ∃ r ∈ rs, fy = r.y
  tell : tellM (rs.map Ry.rc) = (if has then some fy.bs else none, qs.map Ry.rc)
  no : has = false → fy = Fy.z
theorem Tells.none {rs : List Ry} (h : ∀ r ∈ rs, r.kind ≠ 0) : Tells rs Fy.z false rs := by
  refine ⟨fun q hq => hq, .inl rfl, ?_, fun _ => rfl⟩
  rw [tellM_none]
  · rfl
  · intro r hr
    obtain ⟨x, hx, rfl⟩ := List.mem_map.1 hr
    exact h x hx
theorem Tells.at {rs : List Ry} {i : Nat} {r : Ry} (hi : rs[i]? = some r) (h0 : r.kind = 0) (h : ∀ x ∈ rs.drop (i + 1), x.kind ≠ 0) : Tells rs r.y true (rs.drop (i + 1)) := by
  obtain ⟨hlt, he⟩ := List.getElem?_eq_some_iff.1 hi
  refine ⟨fun q hq => List.mem_of_mem_drop hq, .inr ⟨r, List.mem_of_getElem? hi, rfl⟩, ?_, fun hf => by cases hf⟩
  have e : rs = rs.take i ++ r :: rs.drop (i + 1) := by rw [← he, ← List.drop_eq_getElem_cons hlt, List.take_append_drop]
  conv => lhs; rw [e]
  rw [List.map_append, List.map_cons, tellM_at (r := r.rc) h0]
  · rfl
  · intro x hx
    obtain ⟨y, hy, rfl⟩ := List.mem_map.1 hx
    exact h y hy
theorem app_fresh {rows : DR} {s : RL} (hg : ∀ x ∈ rows, x.1 < s.seg) {r : Rc} (hr : r.ok) :
    appE rows s r = 0 ∧ appS rows s r = { s with next := s.next + 1 } ∧ appRows rows s r = (rows ++ (recB r).map fun b => (s.seg, b)) ∧ appN rows s r = s.next := by
  have hn : bytesOf s.seg rows = [] := by
    unfold bytesOf
    rw [List.filter_eq_nil_iff.2 fun y hy => by have := hg y hy; simp; omega]
    rfl
  have ht : turns rows s (recB r).length = false := by
    unfold turns
    rw [hn]
    rfl
  have he : appE rows s r = 0 := by
    unfold appE
    rw [Go.Proofs.YtomdcdfcdeaabaaGreat.bytesE_of hr, if_neg (by decide), ht]; rfl
  have hs : appS rows s r = { s with next := s.next + 1 } := by unfold appS; rw [if_neg (by rw [he]; decide), ht]; rfl
  refine ⟨he, hs, ?_, ?_⟩
  · unfold appRows; rw [if_neg (by rw [he]; decide), hs]
  · unfold appN; rw [if_neg (by rw [he]; decide)]
end Go.Nm
namespace Go.Proofs.YtomdcdfcdeaabaaGreat
open Go Go.Nm Go.Proofs
section
variable {F L : List Assn} {H : Heap} {K : Value → Heap → Prop} {rb db bb : Nat} {rows : DR} {syn : Nat} {s : RL} {most : Int}

theorem BackwardR_spec {a : Option Addr} {n c : Nat} (h : SatL H F) (k : ∀ c0 H', SatL H' (cellsA c0 [.slice a n c] 33 :: F) → K (.func (.func 43) #[] #[.pointer (some ⟨c0, 0, none⟩)]) H') : CallF Tryz.prog 20 #[.slice a n c] H K := by
  refine slices_Backward_Record.call ?_
  unfold slices_Backward_Record.code
  exact h.al fun b _ h => k b _ h

theorem BackwardR1_spec {l c0 : Nat} {pa : Option Addr} {pc : Nat} {rs : List Ry} (hP : rs.length ≤ 1099511627776) (A : Nat → Assn) (Ax : Assn)
    (h : SatL H (A rs.length :: cellsA c0 [.slice pa rs.length pc] 33 :: slA 64 2 pa rs.length pc (flat encR rs) :: F))
    (hy : ∀ j (hj : j < rs.length) (G : List Assn) (H1 : Heap) (K1 : Value → Heap → Prop), SatL H1 (A (j + 1) :: G) → (∀ H2, SatL H2 (A j :: G) → K1 (.bool true) H2) → (∀ H2, SatL H2 (Ax :: G) → K1 (.bool false) H2) →
      YieldF Tryz.prog l [.int .i64 j, .agg #[.int .i64 rs[j].kind, encY rs[j].y]] H1 K1)
    (k : ∀ H', SatL H' (A 0 :: cellsA c0 [.slice pa rs.length pc] 33 :: slA 64 2 pa rs.length pc (flat encR rs) :: F) → K (.tuple #[]) H')
    (kx : ∀ H', SatL H' (Ax :: cellsA c0 [.slice pa rs.length pc] 33 :: slA 64 2 pa rs.length pc (flat encR rs) :: F) → K (.tuple #[]) H') :
    CallF Tryz.prog 43 #[.func (.yield l) #[] #[], .pointer (some ⟨c0, 0, none⟩)] H K := by
  refine slices_Backward_Record_1.call ?_
  unfold slices_Backward_Record_1.code
  have ew : IntKind.i64.wrap ((rs.length : Int) - 1) = (rs.length : Int) - 1 := w64 (by omega) (by omega)
  refine ⟨_, _, _, h.rd 1 rfl _, fun i H' => ∃ j : Nat, i = (j : Int) - 1 ∧ j ≤ rs.length ∧ SatL H' (A j :: cellsA c0 [.slice pa rs.length pc] 33 :: slA 64 2 pa rs.length pc (flat encR rs) :: F), fun i _ => (i + 1).toNat, ⟨rs.length, ew, Nat.le_refl _, h⟩, ?_⟩
  rintro i H1 ⟨j, rfl, hj, h⟩
  unfold slices_Backward_Record_1.l1
  refine ⟨fun hc => ?_, fun hc => ?_⟩
  · obtain ⟨q, rfl⟩ : ∃ q, j = q + 1 := ⟨j - 1, by have := of_decide_eq_true hc; omega⟩
    have eq : ((q + 1 : Nat) : Int) - 1 = (q : Int) := by omega
    rw [eq]
    have hr := h.sl_rd 2 rfl
    refine ⟨_, _, _, h.rd 1 rfl _, ⟨by omega, by omega⟩, _, _, hr.some encR_len (by omega) hj, _, _, _, _, hr.els encR_len hj, ?_⟩
    refine hy q hj _ H1 _ h (fun H4 h4 => ⟨true, rfl, fun hf => (by cases hf), fun _ => ?_⟩) fun H4 h4 => ⟨false, rfl, fun _ => kx _ h4, fun hf => (by cases hf)⟩
    rw [w64 (x := (q : Int) - 1) (by omega) (by omega)]
    exact ⟨⟨q, rfl, by omega, h4⟩, by simp only; omega⟩
  · obtain rfl : j = 0 := by have := of_decide_eq_false hc; omega
    exact k _ h

theorem rClone_own {a : Option Addr} {c : Nat} {qs : List Ry} (h : SatL H L) (ha : ∀ H, SatL H L → rdS H a (flat encR qs)) (hl : qs.length ≤ 1099511627776)
    (k : ∀ a' c' H', SatL H' (slA 64 2 a' qs.length c' (flat encR qs) :: L) → K (.slice a' qs.length c') H') : CallF Tryz.prog 21 #[.slice a qs.length c] H K := by
  refine slices_Clone_Record.call ⟨fun hc => ?_, fun hc => ?_⟩
  · have : a = none := by simpa using hc
    subst this
    have hz := rdS_none (ha H h)
    have : qs = [] := by
      cases qs with
      | nil => rfl
      | cons q r => simp [flat_cons] at hz
    subst this
    exact k none 0 H (h.sl_nil 64 2)
  · refine h.al fun b H1 h => ?_
    have hr := ha _ h.tl
    have h1 := SatL.sl_pt (cs := []) h 2 0 rfl
    refine SatL.append (m := qs.length) sl54 h1 0 rfl hr (flat_length encR_len _) (flat_plain encR_plain _) (by omega) (by omega) fun a' c' H' h2 => ⟨_, _, _, rfl, ?_⟩
    have h3 : SatL H' (slA 64 2 a' (0 + qs.length) c' ([] ++ flat encR qs) :: L) := h2
    rw [Nat.zero_add, List.nil_append] at h3
    have := k a' c' H' h3
    simpa using this

/-- Ahead of a record, going backwards. -/
def boA (b1 b2 b3 l : Nat) (R : Loop) (a : Option Addr) (c : Nat) (rs : List Ry) (j : Nat) : Assn :=
  star [pur (∀ r ∈ rs.drop j, r.kind ≠ 0), cellsA b1 [.slice a rs.length c] 33, cellsA b2 [.slice none 0 0, .bool false, .slice none 0 0] 35, cellsA b3 [.slice a rs.length c] 33, pt l (.loop R)]
def boX (b1 b2 b3 l : Nat) (R : Loop) (a : Option Addr) (c : Nat) (rs : List Ry) : Assn :=
  exS fun p : Nat × Ry => star [pur (rs[p.1]? = some p.2 ∧ p.2.kind = 0 ∧ ∀ r ∈ rs.drop (p.1 + 1), r.kind ≠ 0), cellsA b1 [.slice a rs.length c] 33, cellsA b2 [encY p.2.y, .bool true, .slice none 0 0] 35,
    cellsA b3 [.slice (slB a (p.1 + 1) c 2) (rs.length - (p.1 + 1)) (c - (p.1 + 1))] 33, pt l (.loop { R with state := .done, pending := some (.exit 0) })]

theorem Open_round {b1 b2 b3 j c : Nat} {a : Option Addr} {rs : List Ry} {H4 H1 : Heap} {R : Loop} {G : List Assn} {K1 : Value → Heap → Prop} (hB : rs.length ≤ 1099511627776) (hc : rs.length ≤ c) (hj : j < rs.length)
    (h : SatL H1 (boA b1 b2 b3 (H4.size + 1) R a c rs (j + 1) :: G)) (kt : ∀ H2, SatL H2 (boA b1 b2 b3 (H4.size + 1) R a c rs j :: G) → K1 (.bool true) H2) (kx : ∀ H2, SatL H2 (boX b1 b2 b3 (H4.size + 1) R a c rs :: G) → K1 (.bool false) H2) :
    book_Open.y1 b1 b2 b3 H4 R [.int .i64 j, .agg #[.int .i64 rs[j].kind, encY rs[j].y]] H1 K1 := by
  obtain ⟨hF, h⟩ := SatL.consP h.open
  have h : SatL H1 (cellsA b1 [.slice a rs.length c] 33 :: cellsA b2 [.slice none 0 0, .bool false, .slice none 0 0] 35 :: cellsA b3 [.slice a rs.length c] 33 :: pt (H4.size + 1) (.loop R) :: G) := h
  have ed : rs.drop j = rs[j] :: rs.drop (j + 1) := List.drop_eq_getElem_cons hj
  unfold book_Open.y1
  refine ⟨_, _, _, _, _, rfl, h.getO 3 rfl, ?_⟩
  refine h.al fun b4 _ h => h.st 0 rfl rfl fun _ h => ⟨h.getO 4 rfl, h.stl 4 rfl fun H6 h => ⟨_, h.rd 0 rfl _, fun hc1 => ?_, fun hc1 => ?_⟩⟩
  · have h0 : rs[j].kind = 0 := of_decide_eq_true hc1
    refine ⟨_, _, _, h.rd 0 rfl _, ?_⟩
    refine h.st 2 rfl rfl fun _ h => h.st 2 rfl rfl fun _ h => ⟨_, _, _, h.rd 1 rfl _, ?_⟩
    rw [w64 (x := (j : Int) + 1) (by omega) (by omega)]
    have ej : ((j : Int) + 1).toNat = j + 1 := by omega
    rw [ej]
    refine ⟨⟨by omega, by omega, by omega⟩, ?_⟩
    refine h.st 3 rfl rfl fun H7 h => ⟨h.getO 4 rfl, kx _ ?_⟩
    have h := h.setO 4 rfl (.loop { R with state := .done, pending := some (.exit 0) })
    exact satL_ex.2 ⟨(j, rs[j]), SatL.shut [_, _, _, _, _] (SatL.pur (h.ordt [1, 2, 3, 4] 5 (by decide) (by decide)) ⟨List.getElem?_eq_getElem hj, h0, hF⟩)⟩
  · have h0 : rs[j].kind ≠ 0 := of_decide_eq_false hc1
    refine ⟨h.getO 4 rfl, kt _ ?_⟩
    have h := h.setO 4 rfl (.loop R)
    refine SatL.shut [_, _, _, _, _] (SatL.pur (h.ordt [1, 2, 3, 4] 5 (by decide) (by decide)) fun r hr => ?_)
    rw [ed] at hr
    rcases List.mem_cons.1 hr with rfl | hr
    · exact h0
    · exact hF r hr

theorem BOpen_spec (ok : RowsOk rows) (hB : rows.length ≤ 1099511627776) (h : SatL H (diskX db rows syn :: F))
    (k1 : openE most rows = 0 → ∀ (rs qs : List Ry) (fy : Fy) (has : Bool) a c bb rb H', rs.map Ry.rc = allM rows → Tells rs fy has qs →
      SatL H' (bookA bb rb false 0 0 :: reelA rb db (opS most rows) :: slA 64 2 a qs.length c (flat encR qs) :: rowsR rs :: diskX db rows syn :: F) →
      K (.tuple #[.pointer (some ⟨bb, 0, none⟩), .agg #[encY fy, .bool has, .slice a qs.length c], .int .i64 0]) H')
    (k2 : openE most rows ≠ 0 → ∀ H', SatL H' (diskX db rows syn :: F) → K (.tuple #[.pointer none, .agg #[.slice none 0 0, .bool false, .slice none 0 0], .int .i64 (openE most rows)]) H') :
    CallF Tryz.prog 7 #[.pointer (some ⟨db, 0, none⟩), .int .i64 most] H K := by
  refine book_Open.call ?_
  unfold book_Open.code
  refine h.al fun b H1 h => ?_
  refine Open_spec (F := cellsA b [.slice none 0 0, .bool false, .slice none 0 0] 35 :: F) ok hB (h.ordt [1, 0] 2 (by decide) (by decide)) (fun he rs a1 c1 rb H2 hrs h => ⟨_, _, _, _, _, rfl, ?_⟩) fun he H2 h => ⟨_, _, _, _, _, rfl, ?_⟩
  · obtain ⟨hrs1, hrs2⟩ := recs_short ok hrs
    have hnc := h.sl_nc 1 rfl
    refine h.al fun b1 H3 h => h.st 0 rfl rfl fun H4 h => ⟨(fun hf => by cases hf), fun _ => ?_⟩
    refine h.al fun b2 H5 h => ⟨_, _, _, h.rd 1 rfl _, ?_⟩
    refine h.al fun b3 H6 h => h.st 0 rfl rfl fun H7 h => ⟨_, _, _, h.rd 2 rfl _, ?_⟩
    refine BackwardR_spec h fun c0 H8 h => ⟨_, _, rfl, rfl, fun R hR1 hR2 hy => ?_⟩
    have h := h.rng R
    have h0 : SatL ((H8.push (.deferred (some []))).push (.loop R)) (boA b1 b2 b3 (H8.size + 1) R a1 c1 rs rs.length :: cellsA c0 [.slice a1 rs.length c1] 33 :: slA 64 2 a1 rs.length c1 (flat encR rs) :: pt H8.size (.deferred (some [])) :: reelA rb db (opS most rows) :: rowsR rs :: diskX db rows syn :: cellsA b [.slice none 0 0, .bool false, .slice none 0 0] 35 :: F) := by
      refine SatL.shut [_, _, _, _, _] (SatL.pur ?_ ?_)
      · exact h.ordt [5, 4, 3, 0, 2, 7, 1, 6, 8, 9, 10] 11 (by decide) (by decide)
      · rw [List.drop_length]; intro r hr; cases hr
    refine BackwardR1_spec (by omega) (fun j => boA b1 b2 b3 (H8.size + 1) R a1 c1 rs j) (boX b1 b2 b3 (H8.size + 1) R a1 c1 rs) h0 (fun j hj G H1 K1 h1 kt kx => hy _ _ _ (Open_round (by omega) hnc hj h1 kt kx)) (fun H9 h => ?_) fun H9 h => ?_
    · obtain ⟨hF, h⟩ := SatL.consP h.open
      have h : SatL H9 (cellsA b1 [.slice a1 rs.length c1] 33 :: cellsA b2 [.slice none 0 0, .bool false, .slice none 0 0] 35 :: cellsA b3 [.slice a1 rs.length c1] 33 :: pt (H8.size + 1) (.loop R) :: cellsA c0 [.slice a1 rs.length c1] 33 :: slA 64 2 a1 rs.length c1 (flat encR rs) :: pt H8.size (.deferred (some [])) :: reelA rb db (opS most rows) :: rowsR rs :: diskX db rows syn :: cellsA b [.slice none 0 0, .bool false, .slice none 0 0] 35 :: F) := h
      rw [List.drop_zero] at hF
      refine ⟨.ready, none, by decide, by rw [loop_eta hR1 hR2]; exact h.getO 3 rfl, h.stl 3 rfl fun H10 h => Or.inl ⟨rfl, _, _, _, h.rd 2 rfl _, ?_⟩⟩
      refine rClone_own h (fun H h => h.sl_rd 5 rfl) (by omega) fun a5 c5 H11 h => ⟨_, _, _, rfl, ?_⟩
      refine h.st 2 rfl rfl fun H12 h => ⟨_, _, _, _, _, _, _, h.rds 2 rfl rfl, ?_⟩
      refine h.al fun b5 H13 h => ⟨h.rds 3 rfl rfl, ?_⟩
      refine h.st 12 rfl rfl fun H14 h => ⟨h.getO 8 rfl, ?_⟩
      have h := h.setO 8 rfl (.deferred none)
      refine ⟨_, _, _, _, _, _, _, h.rds 12 rfl rfl, ?_⟩
      exact k1 he rs rs Fy.z false a5 c5 b5 rb _ hrs (Tells.none hF) (h.ordt [0, 9, 1, 10, 11] 13 (by decide) (by decide))
    · obtain ⟨p, h⟩ := satL_ex.1 h
      obtain ⟨hF, h⟩ := SatL.consP h.open
      obtain ⟨i, r⟩ := p
      obtain ⟨hi, hr0, hz⟩ := hF
      dsimp only at hi hr0 hz
      have h : SatL H9 (cellsA b1 [.slice a1 rs.length c1] 33 :: cellsA b2 [encY r.y, .bool true, .slice none 0 0] 35 :: cellsA b3 [.slice (slB a1 (i + 1) c1 2) (rs.length - (i + 1)) (c1 - (i + 1))] 33 :: pt (H8.size + 1) (.loop { R with state := .done, pending := some (.exit 0) }) :: cellsA c0 [.slice a1 rs.length c1] 33 :: slA 64 2 a1 rs.length c1 (flat encR rs) :: pt H8.size (.deferred (some [])) :: reelA rb db (opS most rows) :: rowsR rs :: diskX db rows syn :: cellsA b [.slice none 0 0, .bool false, .slice none 0 0] 35 :: F) := h
      refine ⟨.done, some (.exit 0), by decide, h.getO 3 rfl, h.stl 3 rfl fun H10 h => Or.inr ⟨rfl, _, _, _, h.rd 2 rfl _, ?_⟩⟩
      have edl : rs.length - (i + 1) = (rs.drop (i + 1)).length := by rw [List.length_drop]
      rw [edl]
      refine rClone_own h (fun H h => by
        have := rdS.subS (k := i + 1) (c := c1) (sz := 2) (h.sl_rd 5 rfl) (by rw [flat_length encR_len]; exact Nat.mul_le_mul_right _ hnc)
        rwa [Go.Nm.flat_drop encR_len] at this) (by rw [List.length_drop]; omega) fun a5 c5 H11 h => ⟨_, _, _, rfl, ?_⟩
      refine h.st 2 rfl rfl fun H12 h => ⟨_, _, _, _, _, _, _, h.rds 2 rfl rfl, ?_⟩
      refine h.al fun b5 H13 h => ⟨h.rds 3 rfl rfl, ?_⟩
      refine h.st 12 rfl rfl fun H14 h => ⟨h.getO 8 rfl, ?_⟩
      have h := h.setO 8 rfl (.deferred none)
      refine ⟨_, _, _, _, _, _, _, h.rds 12 rfl rfl, ?_⟩
      exact k1 he rs (rs.drop (i + 1)) r.y true a5 c5 b5 rb _ hrs (Tells.at hi hr0 hz) (h.ordt [0, 9, 1, 10, 11] 13 (by decide) (by decide))
  · refine h.al fun b1 H3 h => h.st 0 rfl rfl fun H4 h => ⟨fun _ => ?_, fun hf => by simp [he] at hf⟩
    refine h.st 2 rfl rfl fun H5 h => ⟨_, _, _, _, _, _, _, h.rds 2 rfl rfl, ?_⟩
    exact k2 he _ (h.ordt [1] 3 (by decide) (by decide))

theorem BAppend_spec {a : Option Addr} {n c : Nat} {kind : Int} {saved : Bool} {num seg : Int} (h : SatL H (bookA bb rb saved num seg :: F))
    (k1 : kind ≤ 0 → K (.tuple #[.int .i64 (-1), .int .i64 11]) H)
    (k2 : ¬ kind ≤ 0 → CallF Tryz.prog 38 #[.pointer (some ⟨rb, 0, none⟩), .int .i64 kind, .slice a n c] H fun u H' => ∃ r r1 : Int, u = .tuple #[.int .i64 r, .int .i64 r1] ∧ K (.tuple #[.int .i64 r, .int .i64 r1]) H') :
    CallF Tryz.prog 14 #[.pointer (some ⟨bb, 0, none⟩), .int .i64 kind, .slice a n c] H K := by
  refine book_Append.call ?_
  unfold book_Append.code
  exact ⟨fun hc => k1 (of_decide_eq_true hc), fun hc => ⟨_, h.rd 0 rfl _, k2 (of_decide_eq_false hc)⟩⟩

theorem Save_spec {a : Option Addr} {c : Nat} {parts : List Fy} {saved : Bool} {num seg : Int} (hs : s.ok) (hseg : s.seg < 2147483647) (hf : ∀ r ∈ rows, r.1 ≤ s.seg) (hB : rows.length ≤ 549755813888)
    (h : SatL H (bookA bb rb saved num seg :: reelA rb db s :: diskX db rows syn :: F))
    (ha : ∀ H, SatL H F → rdS H a (parts.map encY)) (hp : ∀ H, SatL H F → ∀ y ∈ parts, rdS H y.a (y.bs.map U8)) (hb : isBytes (parts.flatMap Fy.bs)) (hn : parts.length ≤ 1099511627776) (hl : (parts.flatMap Fy.bs).length ≤ 262144)
    (k : ∀ H', SatL H' (bookA bb rb true s.next (s.seg + 1) :: reelA rb db { s with seg := s.seg + 1, next := s.next + 1 } :: diskX db (rows ++ (recB ⟨0, parts.flatMap Fy.bs⟩).map fun b => (s.seg + 1, b)) syn :: F) →
      K (.tuple #[.int .i64 s.next, .int .i64 0]) H') :
    CallF Tryz.prog 15 #[.pointer (some ⟨bb, 0, none⟩), .slice a parts.length c] H K := by
  refine book_Save.call ?_
  unfold book_Save.code
  have hs1 := hs.seg
  have hs3 := hs.next
  have hpre : ∀ j, ((parts.take j).flatMap Fy.bs).length ≤ (parts.flatMap Fy.bs).length := fun j => flatMap_take_le _ _ _
  refine ⟨fun size i H' => ∃ j : Nat, i = j ∧ j ≤ parts.length ∧ size = (((parts.take j).flatMap Fy.bs).length : Nat) ∧ H' = H, fun _ i _ => parts.length - i.toNat, ⟨0, rfl, Nat.zero_le _, rfl, rfl⟩, ?_⟩
  rintro size i H' ⟨j, rfl, hj, rfl, rfl⟩
  unfold book_Save.l1
  refine ⟨fun hx => ?_, fun hx => ?_⟩
  · have hlt : j < parts.length := by simpa using hx
    have h1 := (ha _ h.tl.tl.tl).at hlt
    have hft := flat_take hlt
    have hp1 := hpre (j + 1)
    rw [hft, List.length_append] at hp1
    have ew : IntKind.i64.wrap ((((parts.take j).flatMap Fy.bs).length : Int) + (parts[j].bs.length : Int)) = (((parts.take (j + 1)).flatMap Fy.bs).length : Nat) := by
      rw [hft, List.length_append, w64 (by omega) (by omega)]; omega
    refine ⟨⟨by omega, by omega⟩, _, _, h1.1, _, _, _, h1.2, ?_⟩
    dsimp only
    rw [ew]
    refine ⟨fun hc => ?_, fun _ => ?_⟩
    · have := of_decide_eq_true hc
      have := hpre (j + 1)
      omega
    · rw [w64 (x := (j : Int) + 1) (by omega) (by omega)]
      exact ⟨⟨j + 1, rfl, hlt, rfl, rfl⟩, by simp only [Int.toNat_natCast]; omega⟩
  · refine ⟨_, h.rd 0 rfl _, ?_⟩
    refine Turn_spec (F := bookA bb rb saved num seg :: diskX db rows syn :: F) hs1 (h.ordt [1, 0, 2] 3 (by decide) (by decide)) (fun hf => absurd hf (by omega)) fun _ H1 h => ⟨_, _, rfl, (fun hf => by cases hf), fun _ => ⟨_, h.rd 1 rfl _, ?_⟩⟩
    have hs' : ({ s with seg := s.seg + 1 } : RL).ok := ⟨by dsimp only; omega, hs.most, hs3, hs.syn⟩
    have hrok : (⟨0, parts.flatMap Fy.bs⟩ : Rc).ok := ⟨Int.le_refl 0, by show (0 : Int) ≤ 255; decide, hl, hb⟩
    have hap := app_fresh (rows := rows) (s := { s with seg := s.seg + 1 }) (fun x hx => by have := hf x hx; dsimp only; omega) hrok
    have hk := AppendR_spec (F := bookA bb rb saved num seg :: F) (a := a) (c := c) (kind := 0) (parts := parts) (rb := rb) (db := db) (syn := syn) (H := H1) (K := fun u1 H_2 => ∃ r2 r3 : Int, u1 = (.tuple #[(.int .i64 r2), (.int .i64 r3)]) ∧
      (((!decide (r3 = 0))) = true → K (.tuple #[(.int .i64 (-1)), (.int .i64 r3)]) H_2) ∧
      (((!decide (r3 = 0))) = false →
      ∃ v2 : Option Addr, cellAt H_2 bb 0 = some (.pointer v2) ∧
      ∃ r4 : Int, CallQ Tryz.prog 13 #[(.pointer v2)] H_2 (.int .i64 r4) ∧
      canSet H_2 bb (0 + 1) [(.bool true)] ∧
      ∀ H_3 : Heap, H_3 = setAll H_2 bb (0 + 1) [(.bool true)] →
      canSet H_3 bb (0 + 2) [(.int .i64 r2)] ∧
      ∀ H_4 : Heap, H_4 = setAll H_3 bb (0 + 2) [(.int .i64 r2)] →
      canSet H_4 bb (0 + 3) [(.int .i64 r4)] ∧
      ∀ H_5 : Heap, H_5 = setAll H_4 bb (0 + 3) [(.int .i64 r4)] →
      K (.tuple #[(.int .i64 r2), (.int .i64 0)]) H_5)) hs' hB (h.ordt [0, 2, 1] 3 (by decide) (by decide)) (fun H h => ha H h.tl) (fun H h => hp H h.tl) hb hn hl
    rw [hap.1, hap.2.1, hap.2.2.1, hap.2.2.2] at hk
    refine hk fun H2 h => ⟨_, _, rfl, (fun hf => by cases hf), fun _ => ⟨_, h.rd 2 rfl _, _, Segment_spec h, ?_⟩⟩
    refine h.st 2 rfl rfl fun H3 h => h.st 2 rfl rfl fun H4 h => h.st 2 rfl rfl fun H5 h => k _ ?_
    exact h.ordt [2, 0, 1] 3 (by decide) (by decide)

theorem Trim_spec {saved : Bool} {num seg : Int} (hB : rows.length ≤ 1099511627776) (hs : syn ≤ rows.length) (h : SatL H (bookA bb rb saved num seg :: reelA rb db s :: diskX db rows syn :: F))
    (k0 : saved = false → K (.int .i64 19) H)
    (k1 : saved = true → (s.syn : Int) ≤ num → K (.int .i64 21) H)
    (k2 : saved = true → ¬ (s.syn : Int) ≤ num → syn < rows.length → ∀ H', SatL H' (bookA bb rb saved num seg :: reelA rb db s :: diskX db rows syn :: F) → K (.int .i64 21) H')
    (k3 : saved = true → ¬ (s.syn : Int) ≤ num → ¬ syn < rows.length → ∀ H', SatL H' (bookA bb rb saved num seg :: reelA rb db s :: diskX db (dropR seg rows) (dropR seg rows).length :: F) → K (.int .i64 0) H') :
    CallF Tryz.prog 16 #[.pointer (some ⟨bb, 0, none⟩)] H K := by
  refine book_Trim.call ?_
  unfold book_Trim.code
  refine ⟨_, h.rd 0 rfl _, fun hc => k0 (by simpa using hc), fun hc => ?_⟩
  have hsv : saved = true := by simpa using hc
  refine ⟨_, h.rd 0 rfl _, _, Synced_spec (h.ordt [1, 0, 2] 3 (by decide) (by decide)), _, h.rd 0 rfl _, fun hc1 => k1 hsv (of_decide_eq_true hc1), fun hc1 => ⟨_, h.rd 0 rfl _, _, h.rd 0 rfl _, ?_⟩⟩
  have hn := of_decide_eq_false hc1
  refine DropR_spec (F := bookA bb rb saved num seg :: F) hB hs (h.ordt [1, 2, 0] 3 (by decide) (by decide)) (fun hp H1 h => ⟨_, rfl, k2 hsv hn hp _ (h.ordt [2, 0, 1] 3 (by decide) (by decide))⟩) fun hp H1 h => ⟨_, rfl, k3 hsv hn hp _ (h.ordt [2, 0, 1] 3 (by decide) (by decide))⟩

theorem of53_spec {a : Option Addr} {c : Nat} {rs : List Ry} (h : SatL H F) (hF : ∀ H, SatL H F → rdS H a (flat encR rs)) (hl : rs.length ≤ 1099511627776)
    (k : ∀ a' c' H', SatL H' (slA 124 2 a' rs.length c' (flat encR rs) :: F) → K (.slice a' rs.length c') H') :
    CallF Tryz.prog 51 #[.slice a rs.length c] H K := by
  refine of_53.call ?_
  unfold of_53.code
  refine h.al fun b H1 h => ?_
  have h1 := SatL.sl_pt (cs := []) h 2 0 rfl
  refine ⟨fun oa on oc i H' => ∃ j : Nat, i = j ∧ j ≤ rs.length ∧ on = j ∧ SatL H' (slA 124 2 oa j oc (flat encR (rs.take j)) :: F), fun _ _ _ i _ => rs.length - i.toNat, ⟨0, rfl, Nat.zero_le _, rfl, h1⟩, ?_⟩
  rintro oa on oc i H2 ⟨j, rfl, hj, rfl, h⟩
  unfold of_53.l1
  refine ⟨fun hx => ?_, fun hx => ?_⟩
  · have hlt : on < rs.length := by simpa using hx
    have hr := hF _ h.tl
    refine ⟨⟨by omega, by omega⟩, _, _, hr.some encR_len (by omega) hlt, _, hr.el0 encR_len hlt rfl, ⟨by omega, by omega⟩, _, _, hr.some encR_len (by omega) hlt, _, _, _, hr.el encR_len hlt 1 rfl, ?_⟩
    rintro _ _ rfl rfl
    refine h.append1 sl57 0 rfl (by rfl) (by rfl) (by omega) (by omega) fun a8 c8 H8 h => ⟨_, _, _, rfl, ?_⟩
    rw [w64 (x := (on : Int) + 1) (by omega) (by omega)]
    refine ⟨⟨on + 1, rfl, hlt, rfl, ?_⟩, by simp only [Int.toNat_natCast]; omega⟩
    rw [List.take_succ_eq_append_getElem hlt, flat_append, flat_one]
    exact h
  · have hj2 : on = rs.length := by simp at hx; omega
    rw [hj2, List.take_length] at h
    rw [hj2]
    exact k _ _ _ h

theorem great_spec {a : Option Addr} {c : Nat} {calls : List RD} (hr : rdS H a (flat encD calls)) (hl : calls.length ≤ maxLen) : CallQ Tryz.prog 5 #[.slice a calls.length c] H (.bool (!decide (calls.length ≤ 40 ∧ ∀ x ∈ calls, x.bs.length ≤ 200))) := by
  unfold CallQ
  unfold maxLen at hl
  refine great.call ?_
  unfold great.code
  refine ⟨fun hc => ?_, fun hc => ?_⟩
  · have : ¬ (calls.length ≤ 40 ∧ ∀ x ∈ calls, x.bs.length ≤ 200) := fun h => by have := of_decide_eq_true hc; omega
    rw [decide_eq_false this]
    exact ⟨rfl, rfl⟩
  have h60 : calls.length ≤ 40 := by have := of_decide_eq_false hc; omega
  refine ⟨fun i H' => H' = H ∧ ∃ k : Nat, i = k ∧ k ≤ calls.length ∧ ∀ x ∈ calls.take k, x.bs.length ≤ 200, fun i _ => calls.length - i.toNat, ⟨rfl, 0, rfl, Nat.zero_le _, by simp⟩, ?_⟩
  rintro i H' ⟨rfl, k, rfl, hk, hall⟩
  unfold great.l1
  refine ⟨fun hc2 => ?_, fun hc2 => ?_⟩
  · have hlt : k < calls.length := by have := of_decide_eq_true hc2; omega
    refine ⟨⟨by omega, by omega⟩, _, _, hr.some encD_len (by omega) hlt, _, _, _, hr.el encD_len hlt 3 rfl, fun hc3 => ?_, fun hc3 => ?_⟩
    · have : ¬ (calls.length ≤ 40 ∧ ∀ x ∈ calls, x.bs.length ≤ 200) := fun h => by
        have h1 := h.2 _ (List.getElem_mem hlt)
        have := of_decide_eq_true hc3; omega
      rw [decide_eq_false this]
      exact ⟨rfl, rfl⟩
    · rw [w64 (x := (k : Int) + 1) (by omega) (by omega)]
      refine ⟨⟨rfl, k + 1, rfl, hlt, fun x hx => ?_⟩, by simp only [Int.toNat_natCast]; omega⟩
      rw [List.take_succ_eq_append_getElem hlt] at hx
      rcases List.mem_append.1 hx with hx | hx
      · exact hall x hx
      · rw [List.mem_singleton] at hx; subst hx
        have := of_decide_eq_false hc3; omega
  · obtain rfl : k = calls.length := by have := of_decide_eq_false hc2; omega
    rw [List.take_length] at hall
    rw [decide_eq_true (show calls.length ≤ 40 ∧ ∀ x ∈ calls, x.bs.length ≤ 200 from ⟨h60, hall⟩)]
    exact ⟨rfl, rfl⟩
end
end Go.Proofs.YtomdcdfcdeaabaaGreat
