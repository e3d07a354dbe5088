/-
  The disk's functions, walked (1).
-/
import Derived.Test.YtomdcdfcdeaabaaGreatKS
import Derived.Test.YtomdcdfcdeaabaaGreatDP
import Derived.Test.YtomdcdfcdeaabaaGreatMR
set_option linter.unusedVariables false
set_option linter.unusedSimpArgs false
namespace Go.Proofs.YtomdcdfcdeaabaaGreat
open Go Go.Nm Go.Proofs

abbrev I64 := Value.int .i64
theorem mt98 : MapT Tryz.prog 65 3 32 encY Fy.z := mapT_of Tryz.underlying65 (by kernel_rfl)
theorem ko3 : KeyOK Tryz.prog 3 I64 := keyOK_int Tryz.underlying3
theorem sl32 : SlT Tryz.prog 32 5 1 1 := slT_of (by kernel_rfl)
theorem sl99 : SlT Tryz.prog 66 101 2 16 := slT_of (by kernel_rfl)
theorem sl44 : SlT Tryz.prog 82 3 1 8 := slT_of (by kernel_rfl)

structure DS where
  fb : Nat
  pa : Option Addr
  pc : Nat
  pend : List Pc
  m : YM
abbrev diskC (db : Nat) (s : DS) : Assn := cellsA db [.map (some s.fb), .slice s.pa s.pend.length s.pc] 68
abbrev mapY (s : DS) : Assn := mapA I64 encY s.fb s.m
abbrev pendA (s : DS) : Assn := slA 101 2 s.pa s.pend.length s.pc (flat encPc s.pend)
/-- A disk with these bytes, so many of which are synced. -/
def diskX (db : Nat) (rows : DR) (syn : Nat) : Assn := exS fun s : DS => star [pur (DOk s.m s.pend rows syn), diskC db s, mapY s, rowsY s.m, pendA s]

section
variable {db : Nat} {rows : DR} {syn : Nat} {F L : List Assn} {H : Heap} {K : Value → Heap → Prop}

theorem diskX_open (h : SatL H (diskX db rows syn :: F)) : ∃ s : DS, DOk s.m s.pend rows syn ∧ SatL H (diskC db s :: mapY s :: rowsY s.m :: pendA s :: F) := by
  obtain ⟨s, h⟩ := satL_ex.1 h
  obtain ⟨ok, h⟩ := SatL.consP h.open
  exact ⟨s, ok, h⟩
theorem diskX_shut (s : DS) (ok : DOk s.m s.pend rows syn) (h : SatL H (diskC db s :: mapY s :: rowsY s.m :: pendA s :: F)) : SatL H (diskX db rows syn :: F) :=
  satL_ex.2 ⟨s, SatL.shut [_, _, _, _, _] (SatL.pur h ok)⟩

theorem New_spec (h : SatL H F) (k : ∀ db H', SatL H' (diskX db [] 0 :: F) → K (.pointer (some ⟨db, 0, none⟩)) H') : CallF Tryz.prog 6 #[] H K := by
  refine disk_New.call ?_
  unfold disk_New.code
  refine h.alm I64 encY fun fb _ h => h.al fun db _ h => k db _ ?_
  have h := (h.sl_nil 101 2).ordt [1, 2, 0] 3 (by decide) (by decide)
  refine diskX_shut ⟨fb, none, 0, [], []⟩ DOk.new ?_
  have h2 : SatL _ (emp :: diskC db ⟨fb, none, 0, [], []⟩ :: mapY ⟨fb, none, 0, [], []⟩ :: pendA ⟨fb, none, 0, [], []⟩ :: F) := satL_emp.2 h
  exact h2.ordt [1, 2, 0, 3] 4 (by decide) (by decide)

theorem bClone_own {a : Option Addr} {c : Nat} {bs : List Int} (h : SatL H L) (ha : ∀ H, SatL H L → rdS H a (bs.map U8)) (hl : bs.length ≤ 1099511627776)
    (k : ∀ a' c' H', SatL H' (slA 5 1 a' bs.length c' (bs.map U8) :: L) → K (.slice a' bs.length c') H') : CallF Tryz.prog 53 #[.slice a bs.length c] H K := by
  refine bytes_Clone.call ⟨fun hc => ?_, fun hc => ?_⟩
  · have : a = none := by simpa using hc
    subst this
    have hz := rdS_none (ha H h)
    have : bs = [] := by simpa using hz
    subst this
    exact k none 0 H (h.sl_nil 5 1)
  · refine h.al fun b _ h => ?_
    have hr := ha _ h.tl
    have h1 := SatL.sl_pt (cs := []) h 1 0 rfl
    refine SatL.append (m := bs.length) sl32 h1 0 rfl hr (by simp) (plain_map (fun _ => rfl) _) (by omega) (by omega) fun a' c' H' h2 => ⟨_, _, _, rfl, ?_⟩
    have h3 : SatL H' (slA 5 1 a' (0 + bs.length) c' ([] ++ bs.map U8) :: L) := h2
    rw [Nat.zero_add, List.nil_append] at h3
    have := k a' c' H' h3
    simpa using this

theorem Sync_spec (h : SatL H (diskX db rows syn :: F)) (k : ∀ H', SatL H' (diskX db rows rows.length :: F) → K (.tuple #[]) H') : CallF Tryz.prog 41 #[.pointer (some ⟨db, 0, none⟩)] H K := by
  obtain ⟨s, ok, h⟩ := diskX_open h
  refine disk_Sync.call ?_
  unfold disk_Sync.code
  refine h.st 0 rfl rfl fun _ h => k _ ?_
  have h := (h.sl_nil 101 2).ordt [1, 2, 3, 0] 5 (by decide) (by decide)
  exact diskX_shut ⟨s.fb, none, 0, [], s.m⟩ ⟨ok.f, Nat.le_refl _, by simp [expand], fun _ hq => (by cases hq), ok.keys⟩ h

theorem Read_spec {f : Int} (hB : rows.length ≤ 1099511627776) (h : SatL H (diskX db rows syn :: F))
    (k1 : bytesOf f rows = [] → ∀ H', SatL H' (diskX db rows syn :: F) → K (.tuple #[.slice none 0 0, I64 23]) H')
    (k2 : bytesOf f rows ≠ [] → ∀ a c H', SatL H' (slA 5 1 a (bytesOf f rows).length c ((bytesOf f rows).map U8) :: diskX db rows syn :: F) → K (.tuple #[.slice a (bytesOf f rows).length c, I64 0]) H') :
    CallF Tryz.prog 36 #[.pointer (some ⟨db, 0, none⟩), I64 f] H K := by
  obtain ⟨s, ok, h⟩ := diskX_open h
  refine disk_Read.call ?_
  unfold disk_Read.code
  have hl := h.mp_get mt98 ko3 1 rfl (x := f)
  refine ⟨_, h.rd 0 rfl _, ?_⟩
  cases hm : mlook f s.m with
  | none =>
    rw [hm] at hl
    refine ⟨_, _, _, _, hl, fun _ => ?_, fun hf => (by cases hf)⟩
    exact k1 (ok.f.none.1 hm) _ (diskX_shut s ok h)
  | some y =>
    rw [hm] at hl
    obtain ⟨e, hne⟩ := ok.f.some hm
    refine ⟨_, _, _, _, hl, fun hf => (by cases hf), fun _ => ?_⟩
    have h2 := (SatL.rowsY_out ok.f.nd hm).1 (h.ordt [2, 0, 1, 3] 4 (by decide) (by decide))
    refine bClone_own h2 (fun H h => h.sl_rd 0 rfl) (by rw [Option.getD_some, e]; have := bytesOf_length_le f rows; omega) fun a' c' H' h3 => ⟨_, _, _, rfl, ?_⟩
    have h4 := (SatL.rowsY_out ok.f.nd hm).2 (h3.ordt [1, 2, 3, 4, 5, 0] 6 (by decide) (by decide))
    simp only [Option.getD_some] at h4 ⊢
    rw [e] at h4 ⊢
    exact k2 (by rw [← e]; exact hne) _ _ _ ((diskX_shut (F := _ :: F) s ok (h4.ordt [1, 2, 0, 3, 4] 5 (by decide) (by decide))).ordt [1, 0] 2 (by decide) (by decide))

theorem Delete_spec {f : Int} (h : SatL H (diskX db rows syn :: F))
    (k1 : bytesOf f rows = [] → ∀ H', SatL H' (diskX db rows syn :: F) → K (I64 23) H')
    (k2 : bytesOf f rows ≠ [] → syn < rows.length → ∀ H', SatL H' (diskX db rows syn :: F) → K (I64 21) H')
    (k3 : bytesOf f rows ≠ [] → ¬ syn < rows.length → ∀ H', SatL H' (diskX db (rows.filter fun r => decide (r.1 ≠ f)) (rows.filter fun r => decide (r.1 ≠ f)).length :: F) → K (I64 0) H') :
    CallF Tryz.prog 57 #[.pointer (some ⟨db, 0, none⟩), I64 f] H K := by
  obtain ⟨s, ok, h⟩ := diskX_open h
  refine disk_Delete.call ?_
  unfold disk_Delete.code
  have hl := h.mp_get mt98 ko3 1 rfl (x := f)
  refine ⟨_, h.rd 0 rfl _, ?_⟩
  have hlen := ok.len
  cases hm : mlook f s.m with
  | none =>
    rw [hm] at hl
    refine ⟨_, _, _, _, hl, fun _ => ?_, fun hf => (by cases hf)⟩
    exact k1 (ok.f.none.1 hm) _ (diskX_shut s ok h)
  | some y =>
    rw [hm] at hl
    have hne : bytesOf f rows ≠ [] := fun e => by rw [ok.f.none.2 e] at hm; cases hm
    refine ⟨_, _, _, _, hl, fun hf => (by cases hf), fun _ => ⟨_, _, _, h.rd 0 rfl _, fun hc => ?_, fun hc => ?_⟩⟩
    · refine k2 hne ?_ _ (diskX_shut s ok h)
      have hp : 0 < s.pend.length := by have := of_decide_eq_true hc; omega
      have h1 := expand_le ok.pos
      rw [ok.p, List.length_map, List.length_drop] at h1
      omega
    · have hp : s.pend = [] := by
        have : s.pend.length = 0 := by have := of_decide_eq_false hc; omega
        exact List.length_eq_zero_iff.1 this
      have hs : ¬ syn < rows.length := by
        rw [hp] at hlen
        simp only [sizes, List.map_nil, List.sum_nil] at hlen
        omega
      refine ⟨_, h.rd 0 rfl _, h.mp_delete mt98 ko3 1 rfl fun H' h => k3 hne hs _ ?_⟩
      have h2 := ((SatL.rowsY_out ok.f.nd hm).1 (h.ordt [2, 0, 1, 3] 4 (by decide) (by decide))).ordt [2, 3, 1, 4] 5 (by decide) (by decide)
      refine diskX_shut ⟨s.fb, s.pa, s.pc, s.pend, mdel f s.m⟩ ⟨ok.f.delete f, Nat.le_refl _, ?_, ok.pos, fun r hr => ok.keys r (List.mem_filter.1 hr).1⟩ h2
      rw [hp, List.drop_length]; rfl

theorem Pending_spec (hB : rows.length ≤ 1099511627776) (h : SatL H (diskX db rows syn :: F)) (k : ∀ H', SatL H' (diskX db rows syn :: F) → K (I64 ((rows.length : Int) - syn)) H') : CallF Tryz.prog 34 #[.pointer (some ⟨db, 0, none⟩)] H K := by
  obtain ⟨s, ok, h⟩ := diskX_open h
  refine disk_Pending.call ?_
  unfold disk_Pending.code
  have hlen := ok.len
  have hple := ok.ple
  have hsz : ∀ j, 0 ≤ sizes (s.pend.take j) ∧ sizes (s.pend.take j) ≤ sizes s.pend := by
    intro j
    have e : sizes s.pend = sizes (s.pend.take j) + sizes (s.pend.drop j) := by
      unfold sizes; rw [← List.sum_append, ← List.map_append, List.take_append_drop]
    have p1 := expand_length (pend := s.pend.take j) fun q hq => ok.pos q (List.mem_of_mem_take hq)
    have p2 := expand_length (pend := s.pend.drop j) fun q hq => ok.pos q (List.mem_of_mem_drop hq)
    omega
  refine ⟨_, _, _, h.rd 0 rfl _, fun sum t H' => ∃ j : Nat, t = j ∧ j ≤ s.pend.length ∧ sum = sizes (s.pend.take j) ∧ SatL H' (diskC db s :: mapY s :: rowsY s.m :: pendA s :: F), fun _ t _ => s.pend.length - t.toNat,
    ⟨0, rfl, Nat.zero_le _, rfl, h⟩, ?_⟩
  rintro sum t H1 ⟨j, rfl, hj, rfl, h⟩
  unfold disk_Pending.l1
  refine ⟨fun hc => ?_, fun hc => ?_⟩
  · have hlt : j < s.pend.length := by have := of_decide_eq_true hc; omega
    have hr := h.sl_rd 3 rfl
    refine ⟨⟨by omega, by omega⟩, _, _, hr.some encPc_len (by omega) hlt, _, _, hr.els encPc_len hlt, ?_⟩
    refine h.al fun b1 _ h => h.st 0 rfl rfl fun _ h => ⟨_, h.rd 0 rfl _, ?_⟩
    have e1 : sizes (s.pend.take (j + 1)) = sizes (s.pend.take j) + s.pend[j].size := by
      unfold sizes; rw [List.take_succ_eq_append_getElem hlt, List.map_append, List.sum_append]; simp
    have := hsz (j + 1)
    have := hsz j
    have hp := ok.pos _ (List.getElem_mem hlt)
    rw [w64 (x := (j : Int) + 1) (by omega) (by omega), w64 (x := sizes (s.pend.take j) + s.pend[j].size) (by omega) (by omega), ← e1]
    exact ⟨⟨j + 1, rfl, hlt, rfl, h.tl⟩, by simp only [Int.toNat_natCast]; omega⟩
  · obtain rfl : j = s.pend.length := by have := of_decide_eq_false hc; omega
    rw [List.take_length, hlen]
    exact k _ (diskX_shut s ok h)

theorem Size_spec (hB : rows.length ≤ 1099511627776) (h : SatL H (diskX db rows syn :: F)) (k : ∀ H', SatL H' (diskX db rows syn :: F) → K (I64 rows.length) H') : CallF Tryz.prog 35 #[.pointer (some ⟨db, 0, none⟩)] H K := by
  obtain ⟨s, ok, h⟩ := diskX_open h
  refine disk_Size.call ?_
  unfold disk_Size.code
  have htot := ok.f.size
  refine ⟨_, h.rd 0 rfl _, h.rg_new mt98 1 rfl fun it H1 h => ⟨it, rfl, ?_⟩⟩
  refine ⟨fun sum H' => ∃ dn : YM, sum = (((dn.map fun p => p.2.bs.length).sum : Nat) : Int) ∧ (keysOf dn).Nodup ∧ (∀ p ∈ dn, p ∈ s.m) ∧ SatL H' (diskC db s :: rngA I64 encY it s.fb s.m dn :: rowsY s.m :: pendA s :: F), fun _ H' => s.m.length - iterN H' it, ⟨[], rfl, List.nodup_nil, fun _ hp => (by cases hp), h⟩, ?_⟩
  rintro sum H2 ⟨dn, rfl, hdn, hsub, h⟩
  unfold disk_Size.l1
  obtain ⟨hc0, hle⟩ := h.rg_count 1 rfl
  refine h.rg_next 1 rfl (fun hp => Or.inl ⟨rfl, fun hf => (by cases hf), fun _ => ?_⟩) fun p hpm hpn H3 h => Or.inr ⟨_, _, rfl, fun _ => ?_, fun hf => (by cases hf)⟩
  · have h := h.rg_map 1 rfl
    have e : (dn.map fun p => p.2.bs.length).sum = rows.length := by rw [← htot]; exact (hp.map _).sum_nat
    rw [e]
    exact k _ (diskX_shut s ok h)
  · have hent := SatL.rg_entry (P := Tryz.prog) h 1 rfl
    obtain ⟨hc1, hle1⟩ := h.rg_count 1 rfl
    rw [List.length_append, List.length_singleton] at hc1 hle1
    refine ⟨_, _, _, _, hent, ?_⟩
    have hdn' : (keysOf (dn ++ [p])).Nodup := by
      unfold keysOf
      rw [List.map_append, List.nodup_append]
      refine ⟨hdn, by simp, fun a ha b hb e => ?_⟩
      rw [List.map_cons, List.map_nil, List.mem_singleton] at hb
      rw [e, hb] at ha
      exact hpn ha
    have hsub' : ∀ q ∈ dn ++ [p], q ∈ s.m := fun q hq => by
      rcases List.mem_append.1 hq with hq | hq
      · exact hsub q hq
      · rw [List.mem_singleton] at hq; rw [hq]; exact hpm
    obtain ⟨rest, hrest⟩ := sub_perm (keys_nodup hdn') hsub'
    have e1 : ((dn ++ [p]).map fun p => p.2.bs.length).sum = (dn.map fun p => p.2.bs.length).sum + p.2.bs.length := by simp
    have e2 : ((dn ++ [p]).map fun p => p.2.bs.length).sum + (rest.map fun p => p.2.bs.length).sum = rows.length := by
      rw [← htot, ← List.sum_append, ← List.map_append]; exact (hrest.map _).sum_nat
    rw [w64 (by omega) (by omega)]
    refine ⟨⟨dn ++ [p], by rw [e1]; push_cast; rfl, hdn', hsub', h⟩, ?_⟩
    simp only
    omega
end
end Go.Proofs.YtomdcdfcdeaabaaGreat
