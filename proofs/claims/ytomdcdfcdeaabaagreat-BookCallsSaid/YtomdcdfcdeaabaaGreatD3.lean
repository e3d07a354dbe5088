/-
  The disk's functions, walked (3): Crash, Clone.
-/
import Derived.Test.YtomdcdfcdeaabaaGreatD2
set_option linter.unusedVariables false
set_option linter.unusedSimpArgs false
namespace Go.Nm
open Go
theorem slB0 {a : Option Addr} {c s : Nat} (h : a = some ⟨adrB a, adrO a, none⟩) : slB a 0 c s = a := by
  unfold slB
  split
  · rfl
  · rw [h, Option.map_some, Nat.zero_mul, Addr_add]; rfl
section
variable {κ α : Type} [DecidableEq κ]
theorem perm_of_look : ∀ {a b : List (κ × α)}, (keysOf a).Nodup → (keysOf b).Nodup → (∀ f, mlook f a = mlook f b) → a.Perm b
  | [], [], _, _, _ => .refl _
  | [], (k, v) :: r, _, _, h => by have := h k; simp [mlook] at this
  | (k, v) :: r, b, ha, hb, h => by
    simp only [keysOf, List.map_cons, List.nodup_cons] at ha
    have h1 : mlook k b = some v := by rw [← h k]; simp [mlook]
    have h2 : mlook k r = none := mlook_none.2 ha.1
    refine ((perm_of_look (a := r) (b := mdel k b) ha.2 (nodup_mdel hb) fun f => ?_).cons (k, v)).trans (perm_mdel hb h1).symm
    rw [mlook_mdel]
    by_cases e : f = k
    · rw [if_pos e, e]; exact h2
    · rw [if_neg e, ← h f]
      simp only [mlook]
      rw [if_neg (fun e2 => e e2)]
end
theorem expand_at {pend : List Pc} {j : Nat} (hj : j < pend.length) {k : Nat} (h1 : (expand (pend.take j)).length ≤ k) (h2 : k < (expand (pend.take j)).length + pend[j].size.toNat) : (expand pend)[k]? = some pend[j].file := by
  have e : expand pend = expand (pend.take j) ++ (List.replicate pend[j].size.toNat pend[j].file ++ expand (pend.drop (j + 1))) := by
    rw [← expand_one, ← expand_append, ← expand_append]
    congr 1
    rw [List.singleton_append, ← List.drop_eq_getElem_cons hj, List.take_append_drop]
  rw [e, List.getElem?_append_right h1, List.getElem?_append_left (by rw [List.length_replicate]; omega), List.getElem?_replicate, if_pos (by omega)]
/-- What a crash leaves. -/
def crashR (rows : DR) (syn : Nat) (keep : Int) : DR := rows.take (syn + (min (max keep 0) ((rows.length : Int) - syn)).toNat)
end Go.Nm
namespace Go.Proofs.YtomdcdfcdeaabaaGreat
open Go Go.Nm Go.Proofs

section
variable {db : Nat} {rows : DR} {syn : Nat} {F L : List Assn} {H : Heap} {K : Value → Heap → Prop}

theorem cut_spec {s : DS} {r0 t : DR} {f n : Int} (hF : FOk s.m (r0 ++ t)) (ht : ∀ r ∈ t, r.1 = f) (hne : t ≠ []) (hn : n = t.length) (hB : (r0 ++ t).length ≤ 1099511627776) (h : SatL H (diskC db s :: mapY s :: rowsY s.m :: F))
    (k : ∀ m' H', FOk m' r0 → SatL H' (diskC db { s with m := m' } :: mapY { s with m := m' } :: rowsY m' :: F) → K (.tuple #[]) H') :
    CallF Tryz.prog 48 #[.pointer (some ⟨db, 0, none⟩), I64 f, I64 n] H K := by
  refine disk_cut.call ?_
  unfold disk_cut.code
  have hl := h.mp_get1 mt98 ko3 1 rfl (x := f)
  have hb : bytesOf f (r0 ++ t) = bytesOf f r0 ++ t.map Prod.snd := by rw [bytesOf_append, bytesOf_all ht]
  have hbne : bytesOf f (r0 ++ t) ≠ [] := by rw [hb]; simp [hne]
  cases hm : mlook f s.m with
  | none => exact absurd (hF.none.1 hm) hbne
  | some y =>
    rw [hm] at hl
    obtain ⟨ey, yne⟩ := hF.some hm
    rw [hb] at ey
    have hlen : y.bs.length = (bytesOf f r0).length + t.length := by rw [ey]; simp
    have hyB := bytesOf_length_le f (r0 ++ t)
    rw [hb, ← ey] at hyB
    refine ⟨_, h.rd 0 rfl _, _, _, _, hl, fun hc => ?_, fun hc => ?_⟩
    · have hz : bytesOf f r0 = [] := by
        have : n = (y.bs.length : Int) := of_decide_eq_true hc
        exact List.length_eq_zero_iff.1 (by omega)
      refine ⟨_, h.rd 0 rfl _, h.mp_delete mt98 ko3 1 rfl fun H' h => ?_⟩
      have h2 := ((SatL.rowsY_out hF.nd hm).1 (h.ordt [2, 0, 1] 3 (by decide) (by decide))).ordt [2, 3, 1] 4 (by decide) (by decide)
      exact k _ _ ((hF.cut ht).1 hz) h2
    · have hz : bytesOf f r0 ≠ [] := fun e => by
        have : ¬ n = (y.bs.length : Int) := of_decide_eq_false hc
        rw [e] at hlen
        simp at hlen
        omega
      have hz1 := List.length_pos_iff.2 hz
      simp only [Option.getD_some]
      rw [w64 (x := (y.bs.length : Int) - n) (by omega) (by omega)]
      have ht1 : ((y.bs.length : Int) - n).toNat = (bytesOf f r0).length := by omega
      rw [ht1]
      have h2 := (SatL.rowsY_out hF.nd hm).1 (h.ordt [2, 0, 1] 3 (by decide) (by decide))
      have hnc := h2.sl_nc 0 rfl
      have hso := (h2.sl_rd 0 rfl).at (j := 0) (by omega)
      rw [slB0 hso.1]
      refine ⟨_, h.rd 0 rfl _, ⟨by omega, by omega, by omega⟩, ?_⟩
      have h3 := h2.sl_take 0 rfl (bytesOf f r0).length (by omega)
      have e3 : slA 5 1 y.a (bytesOf f r0).length y.c ((y.bs.map U8).take ((bytesOf f r0).length * 1)) = rowY ⟨y.a, y.c, bytesOf f r0⟩ := by
        unfold rowY
        rw [ey, Nat.mul_one, List.map_append]
        rw [show (bytesOf f r0).length = ((bytesOf f r0).map U8).length by simp, List.take_left]
      have h3 : SatL H (rowY ⟨y.a, y.c, bytesOf f r0⟩ :: rowsY (mdel f s.m) :: diskC db s :: mapY s :: F) := by rw [← e3]; exact h3
      refine h3.mp_update (α := Fy) (v := ⟨y.a, y.c, bytesOf f r0⟩) mt98 ko3 3 rfl fun H4 h => ?_
      have h4 := ((SatL.rowsY_in (m := s.m) (k := f)).2 h).ordt [1, 2, 0] 3 (by decide) (by decide)
      exact k _ _ ((hF.cut ht).2 _ rfl hz) h4

theorem Backward_spec {a : Option Addr} {n c : Nat} (h : SatL H F) (k : ∀ c0 H', SatL H' (cellsA c0 [.slice a n c] 66 :: F) → K (.func (.func 67) #[] #[.pointer (some ⟨c0, 0, none⟩)]) H') : CallF Tryz.prog 47 #[.slice a n c] H K := by
  refine slices_Backward_piece.call ?_
  unfold slices_Backward_piece.code
  exact h.al fun b _ h => k b _ h

theorem Backward1_spec {l c0 : Nat} {pa : Option Addr} {pc : Nat} {pend : List Pc} (hP : pend.length ≤ 1099511627776) (A : Nat → Assn) (Ax : Assn)
    (h : SatL H (A pend.length :: cellsA c0 [.slice pa pend.length pc] 66 :: slA 101 2 pa pend.length pc (flat encPc pend) :: F))
    (hy : ∀ j (hj : j < pend.length) (G : List Assn) (H1 : Heap) (K1 : Value → Heap → Prop), SatL H1 (A (j + 1) :: G) → (∀ H2, SatL H2 (A j :: G) → K1 (.bool true) H2) → (∀ H2, SatL H2 (Ax :: G) → K1 (.bool false) H2) →
      YieldF Tryz.prog l [I64 j, .agg #[I64 pend[j].file, I64 pend[j].size]] H1 K1)
    (k : ∀ H', SatL H' (A 0 :: cellsA c0 [.slice pa pend.length pc] 66 :: slA 101 2 pa pend.length pc (flat encPc pend) :: F) → K (.tuple #[]) H')
    (kx : ∀ H', SatL H' (Ax :: cellsA c0 [.slice pa pend.length pc] 66 :: slA 101 2 pa pend.length pc (flat encPc pend) :: F) → K (.tuple #[]) H') :
    CallF Tryz.prog 67 #[.func (.yield l) #[] #[], .pointer (some ⟨c0, 0, none⟩)] H K := by
  refine slices_Backward_piece_1.call ?_
  unfold slices_Backward_piece_1.code
  have ew : IntKind.i64.wrap ((pend.length : Int) - 1) = (pend.length : Int) - 1 := w64 (by omega) (by omega)
  refine ⟨_, _, _, h.rd 1 rfl _, fun i H' => ∃ j : Nat, i = (j : Int) - 1 ∧ j ≤ pend.length ∧ SatL H' (A j :: cellsA c0 [.slice pa pend.length pc] 66 :: slA 101 2 pa pend.length pc (flat encPc pend) :: F), fun i _ => (i + 1).toNat, ⟨pend.length, ew, Nat.le_refl _, h⟩, ?_⟩
  rintro i H1 ⟨j, rfl, hj, h⟩
  unfold slices_Backward_piece_1.l1
  refine ⟨fun hc => ?_, fun hc => ?_⟩
  · obtain ⟨q, rfl⟩ : ∃ q, j = q + 1 := ⟨j - 1, by have := of_decide_eq_true hc; omega⟩
    have eq : ((q + 1 : Nat) : Int) - 1 = (q : Int) := by omega
    rw [eq]
    have hr := h.sl_rd 2 rfl
    refine ⟨_, _, _, h.rd 1 rfl _, ⟨by omega, by omega⟩, _, _, hr.some encPc_len (by omega) hj, _, _, hr.els encPc_len hj, ?_⟩
    refine hy q hj _ H1 _ h (fun H4 h4 => ⟨true, rfl, fun hf => (by cases hf), fun _ => ?_⟩) fun H4 h4 => ⟨false, rfl, fun _ => kx _ h4, fun hf => (by cases hf)⟩
    rw [w64 (x := (q : Int) - 1) (by omega) (by omega)]
    exact ⟨⟨q, rfl, by omega, h4⟩, by simp only; omega⟩
  · obtain rfl : j = 0 := by have := of_decide_eq_false hc; omega
    exact k _ h

/-- How far a crash has come, behind piece j. -/
def crA (db b b1 l : Nat) (R : Loop) (s : DS) (rows : DR) (lost : Int) (j : Nat) : Assn :=
  exS fun m : YM => star [pur (FOk m (rows.take (rows.length - (min (max lost 0) (sizes (s.pend.drop j))).toNat))), diskC db { s with m := m }, mapY { s with m := m }, rowsY m, cellsA b [.pointer (some ⟨db, 0, none⟩)] 25, cellsA b1 [I64 (lost - sizes (s.pend.drop j))] 3, pt l (.loop R)]
def crX (db b l : Nat) (R : Loop) (s : DS) (rows : DR) (lost : Int) : Assn :=
  exS fun m : YM => star [pur (FOk m (rows.take (rows.length - (max lost 0).toNat))), diskC db { s with m := m }, mapY { s with m := m }, rowsY m, cellsA b [.pointer (some ⟨db, 0, none⟩)] 25, pt l (.loop { R with state := .done, pending := some (.exit 0) })]

theorem sizes_drop {pend : List Pc} (hpos : ∀ q ∈ pend, 1 ≤ q.size) (j : Nat) : 0 ≤ sizes (pend.drop j) ∧ sizes (pend.drop j) + sizes (pend.take j) = sizes pend ∧ 0 ≤ sizes (pend.take j) := by
  have e : sizes pend = sizes (pend.take j) + sizes (pend.drop j) := by
    unfold sizes; rw [← List.sum_append, ← List.map_append, List.take_append_drop]
  have p1 := expand_length (pend := pend.take j) fun q hq => hpos q (List.mem_of_mem_take hq)
  have p2 := expand_length (pend := pend.drop j) fun q hq => hpos q (List.mem_of_mem_drop hq)
  omega

theorem Crash_round {s : DS} {b b1 j : Nat} {lost : Int} {H4 H1 : Heap} {R : Loop} {G : List Assn} {K1 : Value → Heap → Prop} (ok : DOk s.m s.pend rows syn) (hB : rows.length ≤ 1099511627776) (hlo : -9223372036854775808 + 1099511627776 ≤ lost + 1099511627776) (hl0 : lost ≤ (rows.length : Int) - syn) (hj : j < s.pend.length)
    (h : SatL H1 (crA db b b1 (H4.size + 1) R s rows lost (j + 1) :: G)) (kt : ∀ H2, SatL H2 (crA db b b1 (H4.size + 1) R s rows lost j :: G) → K1 (.bool true) H2) (kx : ∀ H2, SatL H2 (crX db b (H4.size + 1) R s rows lost :: G) → K1 (.bool false) H2) :
    disk_Crash.y1 b b1 H4 R [I64 j, .agg #[I64 s.pend[j].file, I64 s.pend[j].size]] H1 K1 := by
  obtain ⟨m, h⟩ := satL_ex.1 h
  obtain ⟨hF, h⟩ := SatL.consP h.open
  have h : SatL H1 (diskC db { s with m := m } :: mapY { s with m := m } :: rowsY m :: cellsA b [.pointer (some ⟨db, 0, none⟩)] 25 :: cellsA b1 [I64 (lost - sizes (s.pend.drop (j + 1)))] 3 :: pt (H4.size + 1) (.loop R) :: G) := h
  have hlen := ok.len
  have hsle := ok.sle
  obtain ⟨p1, p2, p3⟩ := sizes_drop ok.pos (j + 1)
  have ed : s.pend.drop j = s.pend[j] :: s.pend.drop (j + 1) := List.drop_eq_getElem_cons hj
  have es : sizes (s.pend.drop j) = s.pend[j].size + sizes (s.pend.drop (j + 1)) := by rw [ed]; unfold sizes; rw [List.map_cons, List.sum_cons]
  obtain ⟨q1, q2, q3⟩ := sizes_drop ok.pos j
  have hpj := ok.pos _ (List.getElem_mem hj)
  have hex := expand_length (pend := s.pend.take j) fun q hq => ok.pos q (List.mem_of_mem_take hq)
  unfold disk_Crash.y1
  refine ⟨_, _, _, rfl, h.getO 5 rfl, ?_⟩
  refine h.al fun b2 _ h => h.st 0 rfl rfl fun _ h => ⟨h.getO 6 rfl, h.stl 6 rfl fun H6 h => ⟨_, h.rd 5 rfl _, fun hc => ?_, fun hc => ?_⟩⟩
  · have hle : lost - sizes (s.pend.drop (j + 1)) ≤ 0 := of_decide_eq_true hc
    refine ⟨h.getO 6 rfl, kx _ ?_⟩
    have h := h.setO 6 rfl (.loop { R with state := .done, pending := some (.exit 0) })
    rw [show min (max lost 0) (sizes (s.pend.drop (j + 1))) = max lost 0 by omega] at hF
    exact satL_ex.2 ⟨m, SatL.shut [_, _, _, _, _, _] (SatL.pur (h.ordt [1, 2, 3, 4, 6] 7 (by decide) (by decide)) hF)⟩
  · have hgt : ¬ lost - sizes (s.pend.drop (j + 1)) ≤ 0 := of_decide_eq_false hc
    refine ⟨_, h.rd 4 rfl _, _, h.rd 0 rfl _, _, h.rd 0 rfl _, _, h.rd 5 rfl _, ?_⟩
    generalize hcv : (if lost - sizes (s.pend.drop (j + 1)) < s.pend[j].size then lost - sizes (s.pend.drop (j + 1)) else s.pend[j].size) = c
    have hc1 : 1 ≤ c ∧ c ≤ s.pend[j].size ∧ c = min (s.pend[j].size) (lost - sizes (s.pend.drop (j + 1))) := by rw [← hcv]; split <;> omega
    have e1 : (min (max lost 0) (sizes (s.pend.drop (j + 1)))).toNat = (sizes (s.pend.drop (j + 1))).toNat := by congr 1; omega
    rw [e1] at hF
    generalize hD : (sizes (s.pend.drop (j + 1))).toNat = D at *
    have hDi : sizes (s.pend.drop (j + 1)) = D := by omega
    have hrl : (rows.take (rows.length - D)).length = rows.length - D := by rw [List.length_take]; omega
    have hsplit : rows.take (rows.length - D) = rows.take (rows.length - D - c.toNat) ++ (rows.take (rows.length - D)).drop (rows.length - D - c.toNat) := by
      conv => lhs; rw [← List.take_append_drop (rows.length - D - c.toNat) (rows.take (rows.length - D))]
      rw [List.take_take, Nat.min_eq_left (by omega)]
    have htl : ((rows.take (rows.length - D)).drop (rows.length - D - c.toNat)).length = c.toNat := by rw [List.length_drop, hrl]; omega
    have htf : ∀ r ∈ (rows.take (rows.length - D)).drop (rows.length - D - c.toNat), r.1 = s.pend[j].file := by
      intro r hr
      obtain ⟨i, hi⟩ := List.getElem?_of_mem hr
      have hi2 : i < c.toNat := by have := (List.getElem?_eq_some_iff.1 hi).1; rw [htl] at this; exact this
      rw [List.getElem?_drop, List.getElem?_take_of_lt (by omega)] at hi
      have h1 : ((rows.drop syn).map Prod.fst)[rows.length - D - c.toNat + i - syn]? = some r.1 := by
        rw [List.getElem?_map, List.getElem?_drop, show syn + (rows.length - D - c.toNat + i - syn) = rows.length - D - c.toNat + i by omega, hi]; rfl
      rw [← ok.p, expand_at hj (by omega) (by omega)] at h1
      exact (Option.some.inj h1).symm
    have htn : (rows.take (rows.length - D)).drop (rows.length - D - c.toNat) ≠ [] := fun e => by rw [e] at htl; simp at htl; omega
    have hBt : (rows.take (rows.length - D - c.toNat) ++ (rows.take (rows.length - D)).drop (rows.length - D - c.toNat)).length ≤ 1099511627776 := by rw [← hsplit, hrl]; omega
    rw [hsplit] at hF
    refine cut_spec (s := { s with m := m }) hF htf htn (by rw [htl]; omega) hBt (h.ordt [1, 2, 3, 0, 4, 5, 6] 7 (by decide) (by decide)) fun m' H7 hF' h => ⟨rfl, _, h.rd 5 rfl _, _, h.rd 3 rfl _, ?_⟩
    have ew : lost - sizes (s.pend.drop (j + 1)) - s.pend[j].size = lost - sizes (s.pend.drop j) := by omega
    rw [ew, w64 (by omega) (by omega)]
    refine h.st 5 rfl rfl fun H8 h => ⟨h.getO 6 rfl, kt _ ?_⟩
    have h := h.setO 6 rfl (.loop R)
    refine satL_ex.2 ⟨m', SatL.shut [_, _, _, _, _, _, _] (SatL.pur (h.ordt [0, 1, 2, 4, 5, 6] 7 (by decide) (by decide)) ?_)⟩
    have e2 : rows.length - (min (max lost 0) (sizes (s.pend.drop j))).toNat = rows.length - D - c.toNat := by omega
    rw [e2]; exact hF'

theorem Crash_spec {keep : Int} (hk : wf64 keep) (hB : rows.length ≤ 1099511627776) (h : SatL H (diskX db rows syn :: F))
    (k : ∀ H', SatL H' (diskX db (crashR rows syn keep) (crashR rows syn keep).length :: F) → K (.tuple #[]) H') : CallF Tryz.prog 28 #[.pointer (some ⟨db, 0, none⟩), I64 keep] H K := by
  refine disk_Crash.call ?_
  unfold disk_Crash.code
  unfold wf64 at hk
  refine h.al fun b _ h => ⟨_, h.rd 0 rfl _, ?_⟩
  refine Pending_spec (F := cellsA b [.pointer (some ⟨db, 0, none⟩)] 25 :: F) hB (h.ordt [1, 0] 2 (by decide) (by decide)) fun H1 h => ⟨_, rfl, ?_⟩
  have emx : (if 0 > keep then 0 else keep) = max keep 0 := by split <;> omega
  obtain ⟨s, ok, h⟩ := diskX_open h
  have hsle := ok.sle
  have hlen := ok.len
  have hpl := ok.ple
  rw [emx, w64 (x := (rows.length : Int) - syn - max keep 0) (by omega) (by omega)]
  generalize hlost : (rows.length : Int) - syn - max keep 0 = lost
  have hcr : rows.take (rows.length - (max lost 0).toNat) = crashR rows syn keep := by unfold crashR; congr 1; omega
  refine h.al fun b1 _ h => h.st 0 rfl rfl fun _ h => ⟨_, h.rd 5 rfl _, nn_some ⟨_, _, _, h.rd 1 rfl _, ?_⟩⟩
  refine Backward_spec h fun c0 H4 h => ⟨_, _, rfl, rfl, fun R hR1 hR2 hy => ?_⟩
  have h := h.rng R
  have h0 : SatL ((H4.push (.deferred (some []))).push (.loop R)) (crA db b b1 (H4.size + 1) R s rows lost s.pend.length :: cellsA c0 [.slice s.pa s.pend.length s.pc] 66 :: pendA s :: pt H4.size (.deferred (some [])) :: F) := by
    refine satL_ex.2 ⟨s.m, SatL.shut [_, _, _, _, _, _, _] (SatL.pur ?_ ?_)⟩
    · rw [List.drop_length, show sizes [] = 0 from rfl, Int.sub_zero]
      exact h.ordt [4, 5, 6, 8, 3, 0, 2, 7, 1] 9 (by decide) (by decide)
    · rw [List.drop_length, show sizes [] = 0 from rfl, show (min (max lost 0) 0).toNat = 0 by omega, Nat.sub_zero, List.take_length]; exact ok.f
  have shutX : ∀ (m : YM) H', FOk m (crashR rows syn keep) → SatL H' (cellsA db [.map (some s.fb), .slice none 0 0] 68 :: mapY { s with m := m } :: rowsY m :: F) → SatL H' (diskX db (crashR rows syn keep) (crashR rows syn keep).length :: F) := by
    intro m H' hF h'
    have h' := (h'.sl_nil 101 2).ordt [1, 2, 3, 0] 4 (by decide) (by decide)
    exact diskX_shut ⟨s.fb, none, 0, [], m⟩ ⟨hF, Nat.le_refl _, by simp [expand], fun _ hq => (by cases hq), fun r hr => ok.keys r (List.mem_of_mem_take hr)⟩ h'
  refine Backward1_spec (by omega) (fun j => crA db b b1 (H4.size + 1) R s rows lost j) (crX db b (H4.size + 1) R s rows lost) h0 (fun j hj G H1 K1 h1 kt kx => hy _ _ _ (Crash_round ok hB (by omega) (by omega) hj h1 kt kx)) (fun H5 h => ?_) fun H5 h => ?_
  · obtain ⟨m, h⟩ := satL_ex.1 h
    obtain ⟨hF, h⟩ := SatL.consP h.open
    have h : SatL H5 (diskC db { s with m := m } :: mapY { s with m := m } :: rowsY m :: cellsA b [.pointer (some ⟨db, 0, none⟩)] 25 :: cellsA b1 [I64 (lost - sizes (s.pend.drop 0))] 3 :: pt (H4.size + 1) (.loop R) :: cellsA c0 [.slice s.pa s.pend.length s.pc] 66 :: pendA s :: pt H4.size (.deferred (some [])) :: F) := h
    have e0 : min (max lost 0) (sizes (s.pend.drop 0)) = max lost 0 := by rw [List.drop_zero]; omega
    rw [e0, hcr] at hF
    refine ⟨.ready, none, by decide, by rw [loop_eta hR1 hR2]; exact h.getO 5 rfl, h.stl 5 rfl fun H9 h => Or.inl ⟨rfl, _, h.rd 3 rfl _, nn_some (h.st 0 rfl rfl fun _ h => ⟨h.getO 8 rfl, ?_⟩)⟩⟩
    have h := h.setO 8 rfl (.deferred none)
    exact k _ (shutX m _ hF (h.ordt [0, 1, 2] 9 (by decide) (by decide)))
  · obtain ⟨m, h⟩ := satL_ex.1 h
    obtain ⟨hF, h⟩ := SatL.consP h.open
    have h : SatL H5 (diskC db { s with m := m } :: mapY { s with m := m } :: rowsY m :: cellsA b [.pointer (some ⟨db, 0, none⟩)] 25 :: pt (H4.size + 1) (.loop { R with state := .done, pending := some (.exit 0) }) :: cellsA c0 [.slice s.pa s.pend.length s.pc] 66 :: pendA s :: pt H4.size (.deferred (some [])) :: F) := h
    rw [hcr] at hF
    refine ⟨.done, some (.exit 0), by decide, h.getO 4 rfl, h.stl 4 rfl fun H9 h => Or.inr ⟨rfl, _, h.rd 3 rfl _, nn_some (h.st 0 rfl rfl fun _ h => ⟨h.getO 7 rfl, ?_⟩)⟩⟩
    have h := h.setO 7 rfl (.deferred none)
    exact k _ (shutX m _ hF (h.ordt [0, 1, 2] 8 (by decide) (by decide)))
end
end Go.Proofs.YtomdcdfcdeaabaaGreat
