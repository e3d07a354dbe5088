/-
  A book's example; BookTrims.
-/
import Derived.Test.YtomdcdfcdeaabaaGreatBA
set_option linter.unusedVariables false
set_option linter.unusedSimpArgs false
namespace Go.Nm
open Go
def bx1 : Rc := ⟨1, [97]⟩
def bx0 : Rc := ⟨0, [65]⟩
def bx2 : Rc := ⟨1, [98]⟩
theorem one_ok {k x : Int} (h0 : 0 ≤ k) (h1 : k ≤ 255) (h2 : 0 ≤ x ∧ x < 256) : (⟨k, [x]⟩ : Rc).ok := ⟨h0, h1, by show 1 ≤ 262144; decide, fun y hy => by
  rw [List.mem_singleton] at hy; subst hy; exact h2⟩
theorem bx1_ok : bx1.ok := one_ok (by decide) (by decide) (by decide)
theorem bx0_ok : bx0.ok := one_ok (by decide) (by decide) (by decide)
theorem bx2_ok : bx2.ok := one_ok (by decide) (by decide) (by decide)
theorem bx_len {r : Rc} (h1 : r.kind.toNat < 128) (h2 : r.data.length = 1) : (recB r).length = 7 := by
  have hb : (bodyB r).length = 6 := by rw [bodyB_lenE, uintB_lt h1, h2]; rfl
  unfold recB
  rw [hb, uintB_lt (by decide), List.length_append, hb]; rfl
theorem bx1_len : (recB bx1).length = 7 := bx_len (by decide) rfl
theorem bx0_len : (recB bx0).length = 7 := bx_len (by decide) rfl
theorem bx2_len : (recB bx2).length = 7 := bx_len (by decide) rfl
abbrev bL2 : LG := [(0, bx1), (1, bx0)]
abbrev bL3 : LG := [(0, bx1), (1, bx0), (1, bx2)]
abbrev bL4 : LG := [(1, bx0), (1, bx2)]
theorem rowsL_len {L : LG} (h : ∀ x ∈ L, (recB x.2).length = 7) : (rowsL L).length = 7 * L.length := by
  induction L with
  | nil => rfl
  | cons x L ih =>
    rw [rowsL_cons, List.length_append, List.length_map, h x List.mem_cons_self, ih fun y hy => h y (List.mem_cons_of_mem _ hy), List.length_cons]
    omega
theorem b3_all {x : Int × Rc} (h : x ∈ bL3) : (x.2.ok ∧ (recB x.2).length = 7) ∧ 0 ≤ x.1 ∧ x.1 ≤ 1 := by
  simp only [List.mem_cons, List.not_mem_nil, or_false] at h
  rcases h with rfl | rfl | rfl
  · exact ⟨⟨bx1_ok, bx1_len⟩, by decide, by decide⟩
  · exact ⟨⟨bx0_ok, bx0_len⟩, by decide, by decide⟩
  · exact ⟨⟨bx2_ok, bx2_len⟩, by decide, by decide⟩
theorem b4_sub {x : Int × Rc} (h : x ∈ bL4) : x ∈ bL3 := List.mem_cons_of_mem _ h
theorem rowsL_rok {L : LG} (h : ∀ x ∈ L, x.2.ok ∧ 0 ≤ x.1 ∧ x.1 ≤ 2147483647) : RowsOk (rowsL L) := by
  intro r hr
  obtain ⟨x, hx, hr⟩ := List.mem_flatMap.1 hr
  obtain ⟨b, hb, rfl⟩ := List.mem_map.1 hr
  have := h x hx
  exact ⟨this.2, recB_bytes this.1 b hb⟩
theorem rowsL_seg {L : LG} {g : Int} (h : ∀ x ∈ L, x.1 ≤ g) : ∀ r ∈ rowsL L, r.1 ≤ g := by
  intro r hr
  obtain ⟨x, hx, hr⟩ := List.mem_flatMap.1 hr
  obtain ⟨b, hb, rfl⟩ := List.mem_map.1 hr
  exact h x hx
theorem b3_len : (rowsL bL3).length = 21 := rowsL_len fun x hx => (b3_all hx).1.2
theorem b2_len : (rowsL bL2).length = 14 := rowsL_len fun x hx => (b3_all (by
  simp only [List.mem_cons, List.not_mem_nil, or_false] at hx ⊢
  rcases hx with rfl | rfl
  · exact .inl rfl
  · exact .inr (.inl rfl))).1.2
theorem b4_len : (rowsL bL4).length = 14 := rowsL_len fun x hx => (b3_all (b4_sub hx)).1.2
theorem b4_drop : dropR 1 (rowsL bL3) = rowsL bL4 := by rw [dropR_log]; rfl
theorem b4_all : allM (rowsL bL4) = [bx0, bx2] := allM_log0 ⟨fun x hx => (b3_all (b4_sub hx)).1.1, by decide⟩
theorem b4_tell : tellM [bx0, bx2] = (some [65], [bx2]) := rfl
theorem b2_turn : turns (rowsL bL2) ⟨64, 1, 2, 0⟩ (recB bx2).length = false := by
  unfold turns
  dsimp only
  rw [bytesOf_rowsL, bx2_len]
  have : (((bL2.filter fun x => decide (x.1 = 1)).map Prod.snd).flatMap recB) = recB bx0 := by
    show recB bx0 ++ [] = _
    rw [List.append_nil]
  rw [this, bx0_len]
  rfl
theorem b2_app : appE (rowsL bL2) ⟨64, 1, 2, 0⟩ bx2 = 0 ∧ appN (rowsL bL2) ⟨64, 1, 2, 0⟩ bx2 = 2 ∧ appS (rowsL bL2) ⟨64, 1, 2, 0⟩ bx2 = ⟨64, 1, 3, 0⟩ ∧ appRows (rowsL bL2) ⟨64, 1, 2, 0⟩ bx2 = rowsL bL3 := by
  have he : appE (rowsL bL2) ⟨64, 1, 2, 0⟩ bx2 = 0 := by
    unfold appE
    rw [Go.Proofs.YtomdcdfcdeaabaaGreat.bytesE_of bx2_ok, if_neg (by decide), b2_turn]; rfl
  have hs : appS (rowsL bL2) ⟨64, 1, 2, 0⟩ bx2 = ⟨64, 1, 3, 0⟩ := by unfold appS; rw [if_neg (by rw [he]; decide), b2_turn]; rfl
  refine ⟨he, ?_, hs, ?_⟩
  · unfold appN; rw [if_neg (by rw [he]; decide)]; rfl
  · unfold appRows; rw [if_neg (by rw [he]; decide), hs]
    rw [show bL3 = bL2 ++ [(1, bx2)] from rfl, rowsL_append, rowsL_one]
theorem Tells.same {rs rs2 qs qs2 : List Ry} {fy fy2 : Fy} {has has2 : Bool} (h : Tells rs fy has qs) (h2 : Tells rs2 fy2 has2 qs2) (e : tellM (rs.map Ry.rc) = tellM (rs2.map Ry.rc)) : has = has2 ∧ fy.bs = fy2.bs ∧ qs.map Ry.rc = qs2.map Ry.rc := by
  have e1 := h.tell
  rw [e, h2.tell] at e1
  injection e1 with e2 e3
  cases has <;> cases has2
  · exact ⟨rfl, by rw [h.no rfl, h2.no rfl], e3.symm⟩
  · cases e2
  · cases e2
  · injection e2 with e2
    exact ⟨rfl, e2.symm, e3.symm⟩
theorem tellM_len : ∀ l : List Rc, (tellM l).2.length ≤ l.length
  | [] => Nat.le_refl _
  | r :: l => by
    have := tellM_len l
    rw [tellM]
    split
    · split
      · simp
      · simp
    · simp only [List.length_cons]; omega
theorem Tells.len {rs qs : List Ry} {fy : Fy} {has : Bool} (h : Tells rs fy has qs) : qs.length ≤ rs.length := by
  have := tellM_len (rs.map Ry.rc)
  rw [h.tell] at this
  simpa using this
theorem Tells.rd {rs qs : List Ry} {fy : Fy} {has : Bool} (h : Tells rs fy has qs) {H : Heap} {F : List Assn} (hs : SatL H (rowsR rs :: F)) : rdS H fy.a (fy.bs.map U8) := by
  rcases h.st with rfl | ⟨r, hr, rfl⟩
  · exact rdS_nil _ _
  · exact rowsR_rd hs r hr
theorem Tells.short {rs qs : List Ry} {fy : Fy} {has : Bool} (h : Tells rs fy has qs) (hs : ∀ r ∈ rs, r.y.bs.length ≤ 1099511627776) : fy.bs.length ≤ 1099511627776 := by
  rcases h.st with rfl | ⟨r, hr, rfl⟩
  · exact Nat.zero_le _
  · exact hs r hr
/-- Where the last checkpoint stands. -/
structure BI (L : LG) (saved : Bool) (num seg at' : Int) : Prop where
  no : saved = false → at' = -1 ∧ ∀ x ∈ L, x.2.kind ≠ 0
  yes : saved = true → ∃ (A : LG) (d : List Int) (B : LG), L = A ++ (seg, ⟨0, d⟩) :: B ∧ (∀ x ∈ B, x.2.kind ≠ 0) ∧ (∀ x ∈ A, x.1 < seg) ∧ num = A.length ∧ at' = seg ∧ 0 ≤ seg
theorem BI.app {L : LG} {saved : Bool} {num seg at' : Int} (h : BI L saved num seg at') {x : Int × Rc} (hx : x.2.kind ≠ 0) : BI (L ++ [x]) saved num seg at' := by
  refine ⟨fun hs => ⟨(h.no hs).1, fun y hy => ?_⟩, fun hs => ?_⟩
  · rcases List.mem_append.1 hy with hy | hy
    · exact (h.no hs).2 y hy
    · rw [List.mem_singleton] at hy; subst hy; exact hx
  · obtain ⟨A, d, B, e, h1, h2, h3, h4, h5⟩ := h.yes hs
    refine ⟨A, d, B ++ [x], by rw [e]; simp, fun y hy => ?_, h2, h3, h4, h5⟩
    rcases List.mem_append.1 hy with hy | hy
    · exact h1 y hy
    · rw [List.mem_singleton] at hy; subst hy; exact hx
theorem TI.save {most : Int} {rows : DR} {syn : Nat} {s : RL} {j : Nat} (h : TI most rows syn s j) (hj : j ≤ 1000) {r : Rc} (hr : r.ok) (hl : r.data.length ≤ 200) :
    TI most (rows ++ (recB r).map fun b => (s.seg + 1, b)) syn { s with seg := s.seg + 1, next := s.next + 1 } (j + 1) := by
  have h1 := h.seg0
  have h2 := h.seg
  have h3 := h.next
  have h4 := h.ssyn
  have h5 := h.len
  have h7 := h.syn
  have hrl := recB_len hr
  refine ⟨h.rok.app ⟨by omega, by omega⟩ (recB_bytes hr), fun x hx => ?_, by rw [List.length_append]; omega, by dsimp only; omega, by dsimp only; omega, by rw [List.length_append, List.length_map]; omega, by dsimp only; omega, by dsimp only; omega, h.hm, h.range⟩
  rcases List.mem_append.1 hx with hx | hx
  · have := h.files x hx; dsimp only; omega
  · obtain ⟨b, _, rfl⟩ := List.mem_map.1 hx
    exact Int.le_refl _
theorem LogI.save {rows : DR} {syn : Nat} {s : RL} {L : LG} (h : LogI rows syn s L) {r : Rc} (hr : r.ok) :
    LogI (rows ++ (recB r).map fun b => (s.seg + 1, b)) syn { s with seg := s.seg + 1, next := s.next + 1 } (L ++ [(s.seg + 1, r)]) := by
  refine ⟨by rw [rowsL_append, rowsL_one, h.rows'], ⟨fun x hx => ?_, ?_⟩, fun x hx => ?_, ?_, ?_, ?_⟩
  · rcases List.mem_append.1 hx with hx | hx
    · exact h.ok.recs x hx
    · rw [List.mem_singleton] at hx; subst hx; exact hr
  · rw [List.pairwise_append]
    refine ⟨h.ok.up, List.pairwise_singleton _ _, fun a ha b hb => ?_⟩
    rw [List.mem_singleton] at hb
    subst hb
    have := h.seg a ha
    dsimp only
    omega
  · rcases List.mem_append.1 hx with hx | hx
    · have := h.seg x hx; dsimp only; omega
    · rw [List.mem_singleton] at hx; subst hx; exact Int.le_refl _
  · rw [List.length_append, ← h.next]; rfl
  · rw [List.length_append]; have := h.ssyn; dsimp only; omega
  · dsimp only
    rw [List.take_append_of_le_length h.ssyn]; exact h.syn
theorem BI.save {L : LG} {s : RL} (hs : 0 ≤ s.seg) (hseg : ∀ x ∈ L, x.1 ≤ s.seg) (hn : s.next = L.length) (d : List Int) : BI (L ++ [(s.seg + 1, ⟨0, d⟩)]) true s.next (s.seg + 1) (s.seg + 1) := by
  refine ⟨(fun hf => by cases hf), fun _ => ⟨L, d, [], rfl, fun y hy => (by cases hy), fun x hx => by have := hseg x hx; omega, by rw [hn], rfl, by omega⟩⟩
/-- What is trimmed tells the same. -/
theorem BI.trim {L : LG} {num seg at' : Int} (h : BI L true num seg at') (ok : L.ok) : tellM (allM (rowsL L)) = tellM (allM (dropR seg (rowsL L))) ∧ ∃ l, filesOf (dropR seg (rowsL L)) = seg :: l := by
  obtain ⟨A, d, B, rfl, h1, h2, h3, h4, h5⟩ := h.yes rfl
  have hup := ok.up
  rw [List.pairwise_append] at hup
  obtain ⟨u1, u2, u3⟩ := hup
  rw [List.pairwise_cons] at u2
  have hf : (A ++ (seg, (⟨0, d⟩ : Rc)) :: B).filter (fun x => decide (seg ≤ x.1)) = (seg, ⟨0, d⟩) :: B := by
    rw [List.filter_append, List.filter_eq_nil_iff.2 fun x hx => by have := h2 x hx; simp; omega, List.nil_append, List.filter_eq_self.2]
    intro x hx
    rcases List.mem_cons.1 hx with rfl | hx
    · exact decide_eq_true (Int.le_refl _)
    · exact decide_eq_true (u2.1 x hx)
  have okB : LG.ok ((seg, (⟨0, d⟩ : Rc)) :: B) := ⟨fun x hx => ok.recs x (List.mem_append_right _ hx), List.pairwise_cons.2 u2⟩
  have hk : ∀ x ∈ B.map Prod.snd, x.kind ≠ 0 := fun x hx => by
    obtain ⟨y, hy, rfl⟩ := List.mem_map.1 hx
    exact h1 y hy
  refine ⟨?_, ?_⟩
  · rw [dropR_log, hf, allM_log0 ok, allM_log0 okB, List.map_append, List.map_cons, tellM_at rfl hk]
    have := tellM_at (r := ⟨0, d⟩) rfl hk []
    rw [List.nil_append] at this
    exact this.symm
  · rw [dropR_log, hf]
    have hm : seg ∈ filesOf (rowsL ((seg, (⟨0, d⟩ : Rc)) :: B)) := mem_filesOf.2 (rowsL_files okB.recs (x := (seg, ⟨0, d⟩)) List.mem_cons_self)
    have hge : ∀ f ∈ filesOf (rowsL ((seg, (⟨0, d⟩ : Rc)) :: B)), seg ≤ f := by
      intro f hf
      obtain ⟨r, hr, rfl⟩ := List.mem_map.1 (mem_filesOf.1 hf)
      obtain ⟨x, hx, hr⟩ := List.mem_flatMap.1 hr
      obtain ⟨b, _, rfl⟩ := List.mem_map.1 hr
      rcases List.mem_cons.1 hx with rfl | hx
      · exact Int.le_refl _
      · exact u2.1 x hx
    have hris := filesOf_rising (rowsL ((seg, (⟨0, d⟩ : Rc)) :: B))
    cases hfl : filesOf (rowsL ((seg, (⟨0, d⟩ : Rc)) :: B)) with
    | nil => rw [hfl] at hm; cases hm
    | cons f l =>
      rw [hfl] at hm hge hris
      refine ⟨l, ?_⟩
      rcases List.mem_cons.1 hm with e | hm
      · rw [e]
      · have e1 := (List.pairwise_cons.1 hris).1 seg hm
        have e2 := hge f List.mem_cons_self
        omega
end Go.Nm
namespace Go.Proofs.YtomdcdfcdeaabaaGreat
open Go Go.Nm Go.Proofs
section
variable {F L : List Assn} {H : Heap} {K : Value → Heap → Prop}

theorem alive47_spec (h : SatL H F) (k : ∀ H', SatL H' F → K (.bool true) H') : CallF Tryz.prog 4 #[] H K := by
  refine alive_47.call ?_
  unfold alive_47.code
  have c32 := fun {H : Heap} {L : List Assn} {K : Value → Heap → Prop} {b n c : Nat} {cs : List Value} => conv_same (P := Tryz.prog) (t := 32) (e := 5) (H := H) (L := L) (K := K) (b := b) (n := n) (c := c) (cs := cs) Tryz.underlying32 Tryz.underlying5
  have ok0 : RowsOk ([] : DR) := fun r hr => by cases hr
  refine New_spec h fun db H1 h => ⟨_, rfl, (fun hf => by cases hf), fun _ => ?_⟩
  obtain ⟨x1, x2, x3⟩ := ex_all
  refine BOpen_spec ok0 (by decide) h (fun _ rs qs fy has a1 c1 bb rb H2 hrs ht h => ⟨_, _, _, _, _, _, _, _, _, rfl, ?_⟩) fun hf => absurd x1 hf
  unfold opS at h
  rw [x2, x3] at h
  have h : SatL H2 (bookA bb rb false 0 0 :: reelA rb db exS0 :: diskX db [] 0 :: F) := h.ordt [0, 1, 4] 5 (by decide) (by decide)
  refine h.al fun b H3 h => h.st 0 rfl rfl fun H4 h => ⟨fun _ => trivial, _, fun _ => h.rd 1 rfl _, (fun hf => by cases hf), fun _ => ?_⟩
  refine h.al fun b1 _ h => c32 h fun H5 h => ⟨_, _, _, rfl, ?_⟩
  refine h.al fun b2 _ h => ?_
  have h : SatL _ (bookA bb rb false 0 0 :: reelA rb db exS0 :: diskX db [] 0 :: cellsA b2 [.slice (some ⟨b1, 0, none⟩) 1 1] 32 :: litA b1 [U8 97] 5 :: F) := h.ordt [3, 4, 5, 0, 1] 6 (by decide) (by decide)
  refine BAppend_spec h (fun hf => absurd hf (by decide)) fun _ => ?_
  obtain ⟨y1, y2, y3, y4⟩ := app_fresh (rows := []) (s := exS0) (fun x hx => by cases hx) bx1_ok
  refine AppendR_spec (s := exS0) (F := bookA bb rb false 0 0 :: cellsA b2 [.slice (some ⟨b1, 0, none⟩) 1 1] 32 :: litA b1 [U8 97] 5 :: F) (parts := [⟨some ⟨b1, 0, none⟩, 1, [97]⟩]) ⟨by decide, by decide, by decide, by decide⟩ (Nat.le_of_ble_eq_true rfl) (h.ordt [1, 2, 0, 3, 4] 5 (by decide) (by decide)) (fun H h => h.ce_rd 1 rfl) (fun H h y hy => by
    rw [List.mem_singleton] at hy; subst hy; exact h.lit_rd 2 rfl) bx1_ok.by' (Nat.le_of_ble_eq_true rfl) (Nat.le_of_ble_eq_true rfl) fun H6 h => ⟨_, _, rfl, _, _, rfl, ?_⟩
  have efl : ∀ (b : Nat) (x : Int), ([⟨some ⟨b, 0, none⟩, 1, [x]⟩] : List Fy).flatMap Fy.bs = [x] := fun _ _ => rfl
  rw [efl, show (⟨1, [97]⟩ : Rc) = bx1 from rfl] at h ⊢
  rw [y2, y3] at h
  rw [y1]
  have h : SatL H6 (bookA bb rb false 0 0 :: reelA rb db ⟨64, 0, 1, 0⟩ :: diskX db (rowsL [(0, bx1)]) 0 :: F) := by
    rw [rowsL_one]
    exact h.ordt [2, 0, 1] 5 (by decide) (by decide)
  refine h.al fun b3 _ h => c32 h fun H7 h => ⟨_, _, _, rfl, ?_⟩
  refine h.al fun b4 _ h => ?_
  have h : SatL _ (bookA bb rb false 0 0 :: reelA rb db ⟨64, 0, 1, 0⟩ :: diskX db (rowsL [(0, bx1)]) 0 :: cellsA b4 [.slice (some ⟨b3, 0, none⟩) 1 1] 32 :: litA b3 [U8 65] 5 :: F) := h.ordt [2, 3, 4, 0, 1] 5 (by decide) (by decide)
  have hl1 : (rowsL [(0, bx1)]).length = 7 := by rw [rowsL_one, List.length_map, bx1_len]
  refine Save_spec (parts := [⟨some ⟨b3, 0, none⟩, 1, [65]⟩]) ⟨by decide, by decide, by decide, by decide⟩ (by decide) (rowsL_seg fun x hx => by
    rw [List.mem_singleton] at hx; subst hx; exact Int.le_refl _) (by rw [hl1]; decide) h (fun H h => h.ce_rd 0 rfl) (fun H h y hy => by
    rw [List.mem_singleton] at hy; subst hy; exact h.lit_rd 1 rfl) bx0_ok.by' (Nat.le_of_ble_eq_true rfl) (Nat.le_of_ble_eq_true rfl) fun H8 h => ⟨_, _, rfl, ?_⟩
  rw [efl, show (⟨0, [65]⟩ : Rc) = bx0 from rfl] at h
  have h : SatL H8 (bookA bb rb true 1 1 :: reelA rb db ⟨64, 1, 2, 0⟩ :: diskX db (rowsL bL2) 0 :: F) := by
    rw [show bL2 = [(0, bx1)] ++ [(1, bx0)] from rfl, rowsL_append, rowsL_one (1, bx0)]
    exact h.ordt [0, 1, 2] 5 (by decide) (by decide)
  refine Trim_spec (by rw [b2_len]; decide) (Nat.zero_le _) h (fun hf => by cases hf) (fun _ _ => ⟨_, rfl, ?_⟩) (fun _ hf => absurd (by decide) hf) fun _ hf => absurd (by decide) hf
  refine h.al fun b5 _ h => c32 h fun H9 h => ⟨_, _, _, rfl, ?_⟩
  refine h.al fun b6 _ h => ?_
  have h : SatL _ (bookA bb rb true 1 1 :: reelA rb db ⟨64, 1, 2, 0⟩ :: diskX db (rowsL bL2) 0 :: cellsA b6 [.slice (some ⟨b5, 0, none⟩) 1 1] 32 :: litA b5 [U8 98] 5 :: F) := h.ordt [2, 3, 4, 0, 1] 5 (by decide) (by decide)
  refine BAppend_spec h (fun hf => absurd hf (by decide)) fun _ => ?_
  refine AppendR_spec (s := ⟨64, 1, 2, 0⟩) (F := bookA bb rb true 1 1 :: cellsA b6 [.slice (some ⟨b5, 0, none⟩) 1 1] 32 :: litA b5 [U8 98] 5 :: F) (parts := [⟨some ⟨b5, 0, none⟩, 1, [98]⟩]) ⟨by decide, by decide, by decide, by decide⟩ (by rw [b2_len]; decide) (h.ordt [1, 2, 0, 3, 4] 5 (by decide) (by decide)) (fun H h => h.ce_rd 1 rfl) (fun H h y hy => by
    rw [List.mem_singleton] at hy; subst hy; exact h.lit_rd 2 rfl) bx2_ok.by' (Nat.le_of_ble_eq_true rfl) (Nat.le_of_ble_eq_true rfl) fun H10 h => ⟨_, _, rfl, _, _, rfl, nn_some ?_⟩
  obtain ⟨z1, z2, z3, z4⟩ := b2_app
  rw [efl, show (⟨1, [98]⟩ : Rc) = bx2 from rfl] at h ⊢
  rw [z3, z4] at h
  rw [z1, z2]
  have h : SatL H10 (bookA bb rb true 1 1 :: reelA rb db ⟨64, 1, 3, 0⟩ :: diskX db (rowsL bL3) 0 :: F) := h.ordt [2, 0, 1] 5 (by decide) (by decide)
  refine ⟨_, h.rd 0 rfl _, ?_⟩
  refine RSyncR_spec (F := bookA bb rb true 1 1 :: F) (h.ordt [1, 2, 0] 3 (by decide) (by decide)) fun H11 h => ⟨rfl, ?_⟩
  have h : SatL H11 (bookA bb rb true 1 1 :: reelA rb db ⟨64, 1, 3, 3⟩ :: diskX db (rowsL bL3) (rowsL bL3).length :: F) := h.ordt [2, 0, 1] 3 (by decide) (by decide)
  refine Trim_spec (by rw [b3_len]; decide) (Nat.le_refl _) h (fun hf => by cases hf) (fun _ hf => absurd hf (by decide)) (fun _ _ hf => absurd hf (Nat.lt_irrefl _)) fun _ _ _ H12 h => ⟨_, rfl, ?_⟩
  rw [b4_drop] at h
  have ok4 : RowsOk (rowsL bL4) := rowsL_rok fun x hx => by
    have := b3_all (b4_sub hx)
    exact ⟨this.1.1, by omega⟩
  have o4 : openE 64 (rowsL bL4) = 0 := openE_in ⟨by decide, by decide⟩ (by
    have := segOf_le (rows := rowsL bL4) (g := 1) (by decide) (rowsL_seg fun x hx => (b3_all (b4_sub hx)).2.2)
    omega)
  refine BOpen_spec (F := bookA bb rb true 1 1 :: reelA rb db ⟨64, 1, 3, 3⟩ :: F) ok4 (by rw [b4_len]; decide) (h.ordt [2, 0, 1] 3 (by decide) (by decide)) (fun _ rs qs fy has a7 c7 bb2 rb2 H13 hrs ht h => ⟨_, _, _, _, _, _, _, _, _, rfl, ?_⟩) fun hf => absurd o4 hf
  have htl := ht.tell
  rw [hrs, b4_all, b4_tell] at htl
  injection htl with e1 e2
  have hhas : has = true := by
    cases has
    · cases e1
    · rfl
  subst hhas
  injection e1 with e1
  obtain ⟨q, rfl, hq⟩ := map_one e2.symm
  have hqb : q.y.bs = [98] := congrArg Rc.data hq
  refine h.al fun b7 H14 h => h.st 0 rfl rfl fun H15 h => ?_
  refine BAppend_spec (bb := bb) (rb := rb) (saved := true) (num := 1) (seg := 1) (F := cellsA b7 [encY fy, .bool true, .slice a7 1 c7] 35 :: slA 64 2 a7 1 c7 (flat encR [q]) :: rowsR rs :: reelA rb db ⟨64, 1, 3, 3⟩ :: F) (h.ordt [6, 0, 3, 4, 7] 8 (by decide) (by decide)) (fun _ => ⟨_, _, rfl, ?_⟩) fun hf => absurd (by decide) hf
  have h : SatL H15 (bookA bb rb true 1 1 :: cellsA b7 [encY fy, .bool true, .slice a7 1 c7] 35 :: slA 64 2 a7 1 c7 (flat encR [q]) :: rowsR rs :: reelA rb db ⟨64, 1, 3, 3⟩ :: F) := h.ordt [6, 0, 3, 4, 7] 8 (by decide) (by decide)
  refine ⟨_, _, _, h.rd 1 rfl _, (fun hf => by cases hf), fun _ Jn hJ => ⟨_, fun _ => h.rd 1 rfl _, _, _, _, fun _ => h.rd 1 rfl _, fun _ => ?_, fun hf => absurd (by decide) hf⟩⟩
  refine h.al fun b8 _ h => c32 h fun H16 h => ⟨_, _, _, rfl, ?_⟩
  have s1 := SameBytes_spec (c := fy.c) (d := 1) (ys := [65]) (ht.rd (h.ordt [4] 6 (by decide) (by decide))) (h.lit_rd 0 rfl) (by rw [← e1]; decide)
  rw [decide_eq_true e1.symm] at s1
  have q1 := h.sl_rd 3 rfl
  have q0 := q1.some encR_len (by decide) (show 0 < [q].length from Nat.zero_lt_one)
  have q2 := q1.el encR_len (show 0 < [q].length from Nat.zero_lt_one) 1 (v := encY q.y) rfl
  refine ⟨_, s1, _, _, _, fun _ => h.rd 2 rfl _, fun _ => ⟨by decide, Int.zero_lt_one⟩, _, _, fun _ => q0, _, _, _, fun _ => q2, fun _ => ?_, fun hf => absurd rfl hf⟩
  refine h.al fun b10 _ h => c32 h fun H17 h => ⟨_, _, _, rfl, ?_⟩
  have s2 := SameBytes_spec (c := q.y.c) (d := 1) (ys := [98]) (rowsR_rd (h.ordt [5] 7 (by decide) (by decide)) q (ht.sub q List.mem_cons_self)) (h.lit_rd 0 rfl) (by rw [hqb]; decide)
  rw [decide_eq_true hqb] at s2
  have h2 : SatL H17 (reelA rb db ⟨64, 1, 3, 3⟩ :: F) := h.ordt [6] 7 (by decide) (by decide)
  refine ⟨_, s2, fun _ => trivial, _, fun _ => h.rd 2 rfl _, _, fun _ => Next_spec h2, fun _ => trivial, _, fun _ => h.rd 2 rfl _, _, fun _ => Synced_spec h2, fun _ => trivial, _, fun _ => h.rd 2 rfl _, _, fun _ => Segment_spec h2, hJ _ _ ?_⟩
  unfold alive_47.r1
  exact k _ h2.tl
end
end Go.Proofs.YtomdcdfcdeaabaaGreat
