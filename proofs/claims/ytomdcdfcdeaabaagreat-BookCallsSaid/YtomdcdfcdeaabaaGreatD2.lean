/-
  The disk's functions, walked (2): Append, Files, Clone.
-/
import Derived.Test.YtomdcdfcdeaabaaGreatD1
set_option linter.unusedVariables false
set_option linter.unusedSimpArgs false
namespace Go.Nm
open Go
/-- Bytes of all parts, for a file. -/
def appd (f : Int) (parts : List Fy) : DR := (parts.flatMap Fy.bs).map fun b => (f, b)
theorem appd_append (f : Int) (a b : List Fy) : appd f (a ++ b) = appd f a ++ appd f b := by simp [appd]
theorem appd_one (f : Int) (p : Fy) : appd f [p] = p.bs.map fun b => (f, b) := by simp [appd]
theorem map_fst_const (f : Int) (bs : List Int) : (bs.map fun b => (f, b)).map Prod.fst = List.replicate bs.length f := by
  induction bs with
  | nil => rfl
  | cons b r ih => simp only [List.map_cons, List.length_cons, List.replicate_succ, ih]
end Go.Nm
namespace Go.Proofs.YtomdcdfcdeaabaaGreat
open Go Go.Nm Go.Proofs

section
variable {db : Nat} {rows : DR} {syn : Nat} {F L : List Assn} {H : Heap} {K : Value → Heap → Prop}

theorem note_spec {s : DS} {f n : Int} (hn : 1 ≤ n) (hn2 : n ≤ 1099511627776) (hpos : ∀ q ∈ s.pend, 1 ≤ q.size) (hle : sizes s.pend ≤ 1099511627776) (hpl : s.pend.length ≤ 1099511627776) (h : SatL H (diskC db s :: pendA s :: F))
    (k : ∀ (pa : Option Addr) (pc : Nat) (pend : List Pc) H', expand pend = expand s.pend ++ List.replicate n.toNat f → (∀ q ∈ pend, 1 ≤ q.size) →
      SatL H' (diskC db ⟨s.fb, pa, pc, pend, s.m⟩ :: pendA ⟨s.fb, pa, pc, pend, s.m⟩ :: F) → K (.tuple #[]) H') :
    CallF Tryz.prog 72 #[.pointer (some ⟨db, 0, none⟩), I64 f, I64 n] H K := by
  refine disk_note.call ?_
  unfold disk_note.code
  have push : ∀ H, SatL H (diskC db s :: pendA s :: F) → ∀ (b3 : Nat) (H_1 : Heap), b3 = H.size → H_1 = H.push (.cells #[I64 f, I64 n] 101) →
      RunW Tryz.prog (Builtin.append_ #[66, 66] 66 #[.slice s.pa s.pend.length s.pc, .slice (some ⟨b3, 0, none⟩) 1 1]) H_1 fun u H_2 =>
        ∃ (sa : Option Addr) (sn sc : Nat), u = .slice sa sn sc ∧ canSet H_2 db (0 + 1) [.slice sa sn sc] ∧ ∀ H_3 : Heap, H_3 = setAll H_2 db (0 + 1) [.slice sa sn sc] → K (.tuple #[]) H_3 := by
    intro H h
    refine h.al fun b3 _ h => ?_
    refine SatL.append (m := 1) (ws := encPc ⟨f, n⟩) sl99 h 2 rfl (h.ce_rd 0 rfl) rfl rfl (by omega) (by omega) fun a2 c2 H4 h => ⟨_, _, _, rfl, ?_⟩
    refine h.st 1 rfl rfl fun H5 h => k a2 c2 (s.pend ++ [⟨f, n⟩]) _ (by rw [expand_append, expand_one]) (fun q hq => ?_) ?_
    · rcases List.mem_append.1 hq with hq | hq
      · exact hpos q hq
      · rw [List.mem_singleton] at hq; subst hq; exact hn
    · have h2 : SatL H5 (cellsA db [.map (some s.fb), .slice a2 (s.pend.length + 1) c2] 68 :: slA 101 2 a2 (s.pend.length + 1) c2 (flat encPc s.pend ++ encPc ⟨f, n⟩) :: F) := h.ordt [1, 2] 3 (by decide) (by decide)
      rw [show flat encPc s.pend ++ encPc ⟨f, n⟩ = flat encPc (s.pend ++ [⟨f, n⟩]) by rw [flat_append, flat_one]] at h2
      simp only [diskC, pendA, List.length_append, List.length_singleton]
      exact h2
  refine ⟨_, _, _, h.rd 0 rfl _, fun _ => trivial, ?_⟩
  rcases List.eq_nil_or_concat s.pend with hp | ⟨init, last, hp⟩
  · have hl0 : ¬ ((0 : Int) < (s.pend.length : Int)) := by rw [hp]; simp
    rw [decide_eq_false hl0]
    exact ⟨none, 0, 0, fun hf => (by cases hf), fun hf => (by cases hf), 0, 0, fun hf => (by cases hf), 0, fun hf => (by cases hf), fun hf => (by simp at hf), fun _ => ⟨_, _, _, h.rd 0 rfl _, push H h⟩⟩
  · rw [List.concat_eq_append] at hp
    have hlen : s.pend.length = init.length + 1 := by rw [hp]; simp
    have e1 : IntKind.i64.wrap ((s.pend.length : Int) - 1) = (init.length : Int) := by rw [w64 (by omega) (by omega)]; omega
    rw [e1, decide_eq_true (show (0 : Int) < (s.pend.length : Int) by omega)]
    have hr := h.sl_rd 1 rfl
    have hlt : init.length < s.pend.length := by omega
    have hg : s.pend[init.length] = last := by simp [hp]
    have hso := hr.some encPc_len (by omega) hlt
    have hfile := hr.el0 encPc_len hlt (v := I64 last.file) (by rw [hg]; rfl)
    have hsize := hr.el encPc_len hlt 1 (v := I64 last.size) (by rw [hg]; rfl)
    have hlast := hpos last (by rw [hp]; simp)
    have hsl : sizes s.pend = sizes init + last.size := by rw [hp]; simp [sizes]
    have hsi : 0 ≤ sizes init := by rw [← expand_length fun q hq => hpos q (by rw [hp]; exact List.mem_append_left _ hq)]; omega
    refine ⟨_, _, _, fun _ => h.rd 0 rfl _, fun _ => ⟨by omega, by omega⟩, _, _, fun _ => hso, _, fun _ => hfile, fun hc => ?_, fun hc => ⟨_, _, _, h.rd 0 rfl _, push H h⟩⟩
    have hf : last.file = f := by simpa using hc
    refine ⟨_, _, _, h.rd 0 rfl _, ⟨by omega, by omega⟩, _, _, hso, _, hsize, ⟨by omega, by omega⟩, _, _, hso, ?_⟩
    rw [w64 (x := last.size + n) (by omega) (by omega)]
    have hset := h.sl_set 1 rfl (init.length * 2 + 1) [I64 (last.size + n)] (by rw [flat_length encPc_len]; simp only [List.length_singleton]; omega) (by simp)
    rw [← Nat.add_assoc] at hset
    refine ⟨hset.2.1, ?_⟩
    rintro H' rfl
    have h2 := hset.2.2
    rw [flat_setf encPc_len (y := ⟨f, last.size + n⟩) (vs := [I64 (last.size + n)]) (f := 1) hlt (by simp) (by rw [hg, ← hf]; rfl)] at h2
    have e2 : s.pend.set init.length ⟨f, last.size + n⟩ = init ++ [⟨f, last.size + n⟩] := by rw [hp]; simp
    rw [e2] at h2
    have e3 : s.pend.length = (init ++ [(⟨f, last.size + n⟩ : Pc)]).length := by rw [hlen]; simp
    refine k s.pa s.pc (init ++ [⟨f, last.size + n⟩]) _ ?_ (fun q hq => ?_) ?_
    · rw [expand_append, expand_one, hp, expand_append, expand_one, List.append_assoc, ← hf, show (last.size + n).toNat = last.size.toNat + n.toNat by omega, ← List.replicate_append_replicate]
    · rcases List.mem_append.1 hq with hq | hq
      · exact hpos q (by rw [hp]; exact List.mem_append_left _ hq)
      · rw [List.mem_singleton] at hq; subst hq; simp only; omega
    · simp only [diskC, pendA]
      rw [← e3]
      exact h2

theorem DOk.sizes_le {m : YM} {pend : List Pc} (ok : DOk m pend rows syn) : sizes pend ≤ rows.length := by have := ok.len; omega

theorem Append_spec {f : Int} {pa : Option Addr} {pc : Nat} {parts : List Fy} (hB : rows.length + (parts.flatMap Fy.bs).length ≤ 1099511627776) (hP : parts.length ≤ 1099511627776)
    (hl : ∀ H', SatL H' F → rdS H' pa (parts.map encY) ∧ ∀ p ∈ parts, rdS H' p.a (p.bs.map U8)) (h : SatL H (diskX db rows syn :: F))
    (k1 : f < 0 ∨ 2147483647 < f → ∀ H', SatL H' (diskX db rows syn :: F) → K (I64 11) H')
    (k2 : ¬ (f < 0 ∨ 2147483647 < f) → ∀ H', SatL H' (diskX db (rows ++ appd f parts) syn :: F) → K (I64 0) H') :
    CallF Tryz.prog 56 #[.pointer (some ⟨db, 0, none⟩), I64 f, .slice pa parts.length pc] H K := by
  refine disk_Append.call ?_
  unfold disk_Append.code
  refine ⟨fun hc => k1 (by simpa using hc) _ h, fun hc => ?_⟩
  have hf : ¬ (f < 0 ∨ 2147483647 < f) := by simpa [Bool.or_eq_false_iff, not_or] using hc
  refine ⟨fun t H' => ∃ j : Nat, t = j ∧ j ≤ parts.length ∧ SatL H' (diskX db (rows ++ appd f (parts.take j)) syn :: F), fun t _ => parts.length - t.toNat, ⟨0, rfl, Nat.zero_le _, by simpa [appd] using h⟩, ?_⟩
  rintro t H1 ⟨j, rfl, hj, h⟩
  unfold disk_Append.l2
  refine ⟨fun hc1 => ?_, fun hc1 => ?_⟩
  · have hlt : j < parts.length := by have := of_decide_eq_true hc1; omega
    have hr := (hl _ h.tl).1.at (j := j) hlt
    refine ⟨⟨by omega, by omega⟩, _, _, hr.1, _, _, _, hr.2, ?_⟩
    intro Jn hJ
    have et : parts.take (j + 1) = parts.take j ++ [parts[j]] := List.take_succ_eq_append_getElem hlt
    have fin : ∀ H', SatL H' (diskX db (rows ++ appd f (parts.take (j + 1))) syn :: F) → Jn H' := by
      intro H' h'
      refine hJ _ ?_
      unfold disk_Append.r1
      rw [w64 (x := (j : Int) + 1) (by omega) (by omega)]
      exact ⟨⟨j + 1, rfl, hlt, h'⟩, by simp only [Int.toNat_natCast]; omega⟩
    have hpm := List.getElem_mem hlt
    have hpr := fun H' (h' : SatL H' F) => (hl H' h').2 _ hpm
    have hsub : (parts.take (j + 1)).flatMap Fy.bs = (parts.take j).flatMap Fy.bs ++ parts[j].bs := by rw [et, List.flatMap_append, List.flatMap_cons, List.flatMap_nil, List.append_nil]
    have htot : ((parts.take (j + 1)).flatMap Fy.bs).length ≤ (parts.flatMap Fy.bs).length := by
      have : parts.flatMap Fy.bs = (parts.take (j + 1)).flatMap Fy.bs ++ (parts.drop (j + 1)).flatMap Fy.bs := by rw [← List.flatMap_append, List.take_append_drop]
      rw [this, List.length_append]; omega
    rw [hsub, List.length_append] at htot
    have hrl : (rows ++ appd f (parts.take j)).length = rows.length + ((parts.take j).flatMap Fy.bs).length := by simp [appd]
    generalize hrows : rows ++ appd f (parts.take j) = rows' at *
    generalize parts[j] = p at *
    refine ⟨fun hc2 => ?_, fun hc2 => ?_⟩
    · have hb : p.bs ≠ [] := fun e => by rw [e] at hc2; simp at hc2
      have hb1 : 1 ≤ p.bs.length := List.length_pos_iff.2 hb
      obtain ⟨s, ok, h⟩ := diskX_open h
      have hlk := h.mp_get1 mt98 ko3 1 rfl (x := f)
      have hget := ok.f.get f
      have hble := bytesOf_length_le f rows'
      refine ⟨_, h.rd 0 rfl _, _, h.rd 0 rfl _, _, _, _, hlk, ?_⟩
      have h2 : SatL H1 (rowY ((mlook f s.m).getD Fy.z) :: rowsY (mdel f s.m) :: diskC db s :: mapY s :: pendA s :: F) := by
        cases hm : mlook f s.m with
        | none =>
          rw [mdel_of_none hm]
          exact (h.sl_nil 5 1).ordt [0, 3, 1, 2, 4] 5 (by decide) (by decide)
        | some y => exact (SatL.rowsY_out ok.f.nd hm).1 (h.ordt [2, 0, 1, 3] 4 (by decide) (by decide))
      generalize hy : (mlook f s.m).getD Fy.z = y at *
      refine SatL.append (m := p.bs.length) (ws := p.bs.map U8) sl32 h2 0 rfl (hpr _ h2.tl.tl.tl.tl.tl) (by simp) (plain_map (fun _ => rfl) _) (by rw [hget]; omega) (by rw [hget]; omega) fun a' c' H3 h => ⟨_, _, _, rfl, h.rd 2 rfl _, ?_⟩
      have ey : slA 5 1 a' (y.bs.length + p.bs.length) c' (y.bs.map U8 ++ p.bs.map U8) = rowY ⟨a', c', y.bs ++ p.bs⟩ := by
        unfold rowY; simp [List.length_append, List.map_append]
      have h : SatL H3 (rowY ⟨a', c', y.bs ++ p.bs⟩ :: rowsY (mdel f s.m) :: diskC db s :: mapY s :: pendA s :: F) := by rw [← ey]; exact h
      have ev : (Value.slice a' (y.bs.length + p.bs.length) c') = encY ⟨a', c', y.bs ++ p.bs⟩ := by simp
      rw [ev]
      refine h.mp_update (α := Fy) (v := ⟨a', c', y.bs ++ p.bs⟩) mt98 ko3 3 rfl fun H4 h => ?_
      have h := (SatL.rowsY_in (m := s.m) (k := f)).2 (h.ordt [0, 1, 2, 3, 4] 5 (by decide) (by decide))
      have hsz := DOk.sizes_le ok
      have hpl := ok.ple
      refine note_spec (s := s) (f := f) (n := p.bs.length) (F := rowsY (mset f ⟨a', c', y.bs ++ p.bs⟩ s.m) :: mapA I64 encY s.fb (mset f ⟨a', c', y.bs ++ p.bs⟩ s.m) :: F) (by omega) (by omega) ok.pos (by omega) (by omega) (h.ordt [1, 3, 0, 2] 4 (by decide) (by decide))
        fun pa' pc' pend' H5 hex hpos h => ⟨rfl, fin _ ?_⟩
      have erow : rows ++ appd f (parts.take (j + 1)) = rows' ++ p.bs.map fun b => (f, b) := by rw [et, appd_append, appd_one, ← List.append_assoc, hrows]
      rw [erow]
      refine diskX_shut ⟨s.fb, pa', pc', pend', mset f ⟨a', c', y.bs ++ p.bs⟩ s.m⟩ ⟨ok.f.append hb (by simp only; rw [hget]), by rw [List.length_append]; have := ok.sle; omega, ?_, hpos, fun r hr => ?_⟩ (h.ordt [0, 3, 2, 1] 4 (by decide) (by decide))
      · rw [hex, ok.p, List.drop_append_of_le_length ok.sle, List.map_append, map_fst_const]; simp
      · rcases List.mem_append.1 hr with hr | hr
        · exact ok.keys r hr
        · obtain ⟨b, _, rfl⟩ := List.mem_map.1 hr
          simp only; omega
    · have hb : p.bs = [] := by
        have : p.bs.length = 0 := by have := of_decide_eq_false hc2; omega
        exact List.length_eq_zero_iff.1 this
      refine fin _ ?_
      have erow : rows ++ appd f (parts.take (j + 1)) = rows' := by rw [et, appd_append, appd_one, ← List.append_assoc, hrows, hb]; simp
      rw [erow]; exact h
  · obtain rfl : j = parts.length := by have := of_decide_eq_false hc1; omega
    rw [List.take_length] at h
    exact k2 hf _ h

theorem Files_spec (hB : rows.length ≤ 1099511627776) (h : SatL H (diskX db rows syn :: F))
    (k : ∀ a c H', SatL H' (slA 3 1 a (filesOf rows).length c ((filesOf rows).map I64) :: diskX db rows syn :: F) → K (.slice a (filesOf rows).length c) H') :
    CallF Tryz.prog 33 #[.pointer (some ⟨db, 0, none⟩)] H K := by
  obtain ⟨s, ok, h⟩ := diskX_open h
  refine disk_Files.call ?_
  unfold disk_Files.code
  have hml := ok.f.le
  refine ⟨_, h.rd 0 rfl _, h.rg_new mt98 1 rfl fun it H1 h => ⟨_, rfl, ?_⟩⟩
  have h := h.sl_nil 3 1
  refine ⟨fun la ln lc H' => ∃ dn : YM, ln = dn.length ∧ SatL H' (slA 3 1 la dn.length lc ((keysOf dn).map I64) :: diskC db s :: rngA I64 encY it s.fb s.m dn :: rowsY s.m :: pendA s :: F),
    fun _ _ _ H' => s.m.length - iterN H' it, ⟨[], rfl, h⟩, ?_⟩
  rintro la ln lc H2 ⟨dn, rfl, h⟩
  unfold disk_Files.l1
  obtain ⟨hc0, hle⟩ := h.rg_count 2 rfl
  refine h.rg_next 2 rfl (fun hp => Or.inl ⟨rfl, fun hf => (by cases hf), fun _ => ?_⟩) fun p hpm hpn H3 h => Or.inr ⟨_, _, rfl, fun _ => ?_, fun hf => (by cases hf)⟩
  · have h := h.rg_map 2 rfl
    have hk : (keysOf dn).length = dn.length := by simp [keysOf]
    rw [← hk] at h ⊢
    refine Sort_call h 0 rfl (by omega) fun H4 h => ⟨rfl, ?_⟩
    have e1 : sortI (keysOf dn) = filesOf rows := by rw [← ok.f.files]; exact sortI_perm (hp.map _)
    have e2 : (keysOf dn).length = (filesOf rows).length := by rw [← e1, sortI_length]
    rw [e1] at h
    rw [e2] at h ⊢
    exact k la lc _ ((diskX_shut (F := _ :: F) s ok (h.ordt [1, 2, 3, 4, 0] 5 (by decide) (by decide))).ordt [1, 0] 2 (by decide) (by decide))
  · have hent := SatL.rg_entry (P := Tryz.prog) h 2 rfl
    obtain ⟨hc1, hle1⟩ := h.rg_count 2 rfl
    rw [List.length_append, List.length_singleton] at hc1 hle1
    refine ⟨_, _, hent, ?_⟩
    refine h.al fun b _ h => ?_
    refine SatL.append (m := 1) (ws := [I64 p.1]) sl44 h 1 rfl (h.ce_rd 0 rfl) rfl rfl (by omega) (by omega) fun a2 c2 H4 h => ⟨_, _, _, rfl, ?_⟩
    refine ⟨⟨dn ++ [p], by simp, ?_⟩, ?_⟩
    · have h2 : SatL H4 (slA 3 1 a2 (dn.length + 1) c2 ((keysOf dn).map I64 ++ [I64 p.1]) :: diskC db s :: rngA I64 encY it s.fb s.m (dn ++ [p]) :: rowsY s.m :: pendA s :: F) := h.ordt [1, 2, 3, 4, 5] 6 (by decide) (by decide)
      rw [show (keysOf dn).map I64 ++ [I64 p.1] = (keysOf (dn ++ [p])).map I64 by simp [keysOf]] at h2
      simpa only [List.length_append, List.length_singleton] using h2
    · obtain ⟨hc4, _⟩ := h.rg_count 3 rfl
      rw [List.length_append, List.length_singleton] at hc4
      simp only; omega
end
end Go.Proofs.YtomdcdfcdeaabaaGreat
