/-
  The disk's functions, walked (4): Clone.
-/
import Derived.Test.YtomdcdfcdeaabaaD3
set_option linter.unusedVariables false
set_option linter.unusedSimpArgs false
namespace Go.Proofs.Ytomdcdfcdeaabaa
open Go Go.Nm Go.Proofs

section
variable {db : Nat} {rows : DR} {syn : Nat} {F L : List Assn} {H : Heap} {K : Value → Heap → Prop}

theorem ClonePc_spec {a : Option Addr} {c : Nat} {pend : List Pc} (h : SatL H L) (ha : ∀ H, SatL H L → rdS H a (flat encPc pend)) (hl : pend.length ≤ 1099511627776)
    (k : ∀ a' c' H', SatL H' (slA 109 2 a' pend.length c' (flat encPc pend) :: L) → K (.slice a' pend.length c') H') : CallF Try.prog 63 #[.slice a pend.length c] H K := by
  refine slices_Clone_piece.call ⟨fun hc => ?_, fun hc => ?_⟩
  · have : a = none := by simpa using hc
    subst this
    have hz := rdS_none (ha H h)
    have hz2 := congrArg List.length hz
    rw [flat_length encPc_len] at hz2
    have : pend = [] := List.length_eq_zero_iff.1 (by simp only [List.length_nil] at hz2; omega)
    subst this
    exact k none 0 H (h.sl_nil 109 2)
  · refine h.al fun b _ h => ?_
    have hr := ha _ h.tl
    have h1 := SatL.sl_pt (cs := []) h 2 0 rfl
    refine SatL.append (m := pend.length) sl99 h1 0 rfl hr (flat_length encPc_len pend) (flat_plain (fun _ => rfl) _) (by omega) (by omega) fun a' c' H' h2 => ⟨_, _, _, rfl, ?_⟩
    have h3 : SatL H' (slA 109 2 a' (0 + pend.length) c' ([] ++ flat encPc pend) :: L) := h2
    rw [Nat.zero_add, List.nil_append] at h3
    rw [Nat.zero_add]
    exact k a' c' H' h3

/-- What a clone has made, behind the files dn. -/
structure CI (m m' new dn : YM) : Prop where
  nd : (keysOf m').Nodup
  nn : (keysOf new).Nodup
  like : ∀ f, (mlook f new).map Fy.bs = (mlook f dn).map Fy.bs
  look : ∀ f, mlook f m' = match mlook f new with | some y => some y | none => mlook f m
theorem CI.new {m : YM} (h : (keysOf m).Nodup) : CI m m [] [] := ⟨h, List.nodup_nil, fun _ => rfl, fun f => rfl⟩
theorem mlook_snoc {dn : YM} {p : Int × Fy} (hn : p.1 ∉ keysOf dn) (f : Int) : mlook f (dn ++ [p]) = if f = p.1 then some p.2 else mlook f dn := by
  induction dn with
  | nil =>
    simp only [List.nil_append, mlook]
  | cons q r ih =>
    simp only [keysOf, List.map_cons, List.mem_cons, not_or] at hn
    have ih := ih hn.2
    simp only [List.cons_append, mlook]
    split
    · rename_i e
      rw [if_neg (fun e2 => hn.1 (by rw [← e, ← e2]))]
    · exact ih
theorem CI.step {m m' new dn : YM} {p : Int × Fy} {y : Fy} (h : CI m m' new dn) (hn : p.1 ∉ keysOf dn) (hy : y.bs = p.2.bs) : CI m (mset p.1 y m') ((p.1, y) :: new) (dn ++ [p]) := by
  have hnn : p.1 ∉ keysOf new := by
    have := h.like p.1
    rw [mlook_none.2 hn] at this
    exact mlook_none.1 (Option.map_eq_none_iff.1 this)
  refine ⟨nodup_mset h.nd, by simp only [keysOf, List.map_cons, List.nodup_cons]; exact ⟨hnn, h.nn⟩, fun f => ?_, fun f => ?_⟩
  · rw [mlook_snoc hn]
    simp only [mlook]
    by_cases e : f = p.1
    · rw [if_pos e, if_pos e]; simp [hy]
    · rw [if_neg e, if_neg e]; exact h.like f
  · rw [mlook_mset]
    simp only [mlook]
    by_cases e : f = p.1
    · rw [if_pos e, if_pos e]
    · rw [if_neg e, if_neg e]; exact h.look f
theorem CI.done {m m' new dn : YM} (h : CI m m' new dn) (hd : (keysOf m).Nodup) (hp : dn.Perm m) : m'.Perm new ∧ ∀ f, (mlook f new).map Fy.bs = (mlook f m).map Fy.bs := by
  have hl : ∀ f, mlook f dn = mlook f m := fun f => mlook_perm ((hp.map Prod.fst).nodup_iff.2 hd) hp
  refine ⟨perm_of_look h.nd h.nn fun f => ?_, fun f => by rw [h.like f, hl f]⟩
  rw [h.look f]
  cases hn : mlook f new with
  | some y => rfl
  | none =>
    have := h.like f
    rw [hn, hl f] at this
    exact Option.map_eq_none_iff.1 this.symm

theorem Clone_spec (hB : rows.length ≤ 1099511627776) (h : SatL H (diskX db rows syn :: F))
    (k : ∀ db' H', SatL H' (diskX db' rows syn :: diskX db rows syn :: F) → K (.pointer (some ⟨db', 0, none⟩)) H') : CallF Try.prog 21 #[.pointer (some ⟨db, 0, none⟩)] H K := by
  obtain ⟨s, ok, h⟩ := diskX_open h
  have hml := ok.f.le
  have hpl := ok.ple
  refine disk_Clone.call ?_
  unfold disk_Clone.code
  refine ⟨_, h.rd 0 rfl _, Clone_call h 1 rfl fun H1 h _ => ⟨_, rfl, ?_⟩⟩
  obtain ⟨fb', hfb⟩ : ∃ x, x = H.size := ⟨_, rfl⟩
  rw [← hfb] at h ⊢
  refine ⟨_, h.rd 1 rfl _, h.rg_new mt98 2 rfl fun it H2 h => ⟨it, rfl, ?_⟩⟩
  refine ⟨fun H' => ∃ dn m' new : YM, CI s.m m' new dn ∧ SatL H' (mapA I64 encY fb' m' :: diskC db s :: rngA I64 encY it s.fb s.m dn :: rowsY s.m :: pendA s :: rowsY new :: F), fun H' => s.m.length - iterN H' it,
    ⟨[], s.m, [], CI.new ok.f.nd, ?_⟩, ?_⟩
  · have h2 : SatL H2 (rowsY [] :: mapA I64 encY fb' s.m :: diskC db s :: rngA I64 encY it s.fb s.m [] :: rowsY s.m :: pendA s :: F) := satL_emp.2 h
    exact h2.ordt [1, 2, 3, 4, 5, 0] 6 (by decide) (by decide)
  rintro H3 ⟨dn, m', new, ci, h⟩
  unfold disk_Clone.l1
  obtain ⟨hc0, hle⟩ := h.rg_count 2 rfl
  refine h.rg_next 2 rfl (fun hp => Or.inl ⟨rfl, fun hf => (by cases hf), fun _ => ?_⟩) fun p hpm hpn H4 h => Or.inr ⟨_, _, rfl, fun _ => ?_, fun hf => (by cases hf)⟩
  · have h := h.rg_map 2 rfl
    refine ⟨_, _, _, h.rd 1 rfl _, ?_⟩
    refine ClonePc_spec h (fun H h => h.sl_rd 4 rfl) (by omega) fun a' c' H5 h => ⟨_, _, _, rfl, ?_⟩
    refine h.al fun db' H6 h => k db' _ ?_
    obtain ⟨hp1, hp2⟩ := ci.done ok.f.nd hp
    have em : mapA I64 encY fb' m' = mapA I64 encY fb' new := mapA_perm hp1
    have h : SatL H6 (cellsA db' [.map (some fb'), .slice a' s.pend.length c'] 101 :: slA 109 2 a' s.pend.length c' (flat encPc s.pend) :: mapA I64 encY fb' m' :: diskC db s :: mapY s :: rowsY s.m :: pendA s :: rowsY new :: F) := h
    rw [em] at h
    have okn : DOk new s.pend rows syn := ⟨⟨ci.nn, fun f => by rw [hp2 f]; exact ok.f.is f⟩, ok.sle, ok.p, ok.pos, ok.keys⟩
    have h1 : SatL H6 (diskX db' rows syn :: diskC db s :: mapY s :: rowsY s.m :: pendA s :: F) := diskX_shut ⟨fb', a', c', s.pend, new⟩ okn (h.ordt [0, 2, 7, 1, 3, 4, 5, 6] 8 (by decide) (by decide))
    exact (diskX_shut (F := _ :: F) s ok (h1.ordt [1, 2, 3, 4, 0] 5 (by decide) (by decide))).ordt [1, 0] 2 (by decide) (by decide)
  · have hent := SatL.rg_entry (P := Try.prog) h 2 rfl
    obtain ⟨hc1, hle1⟩ := h.rg_count 2 rfl
    rw [List.length_append, List.length_singleton] at hc1 hle1
    have hlk : mlook p.1 s.m = some p.2 := mlook_of_mem ok.f.nd hpm
    have hbl : p.2.bs.length ≤ rows.length := by rw [(ok.f.some hlk).1]; exact bytesOf_length_le _ _
    refine ⟨_, _, _, _, hent, ?_⟩
    have h2 := (SatL.rowsY_out ok.f.nd hlk).1 (h.ordt [3, 0, 1, 2, 4, 5] 6 (by decide) (by decide))
    refine bClone_own h2 (fun H h => h.sl_rd 0 rfl) (by omega) fun a' c' H5 h => ⟨_, _, _, rfl, ?_⟩
    have h3 := (SatL.rowsY_out ok.f.nd hlk).2 (h.ordt [1, 2, 3, 4, 5, 6, 7, 0] 8 (by decide) (by decide))
    refine h3.mp_update (α := Fy) (v := ⟨a', c', p.2.bs⟩) mt98 ko3 1 rfl fun H6 h => ⟨⟨dn ++ [p], mset p.1 ⟨a', c', p.2.bs⟩ m', (p.1, ⟨a', c', p.2.bs⟩) :: new, ci.step hpn rfl, ?_⟩, ?_⟩
    · have h4 : SatL H6 (rowY ⟨a', c', p.2.bs⟩ :: rowsY new :: mapA I64 encY fb' (mset p.1 ⟨a', c', p.2.bs⟩ m') :: diskC db s :: rngA I64 encY it s.fb s.m (dn ++ [p]) :: rowsY s.m :: pendA s :: F) := h.ordt [6, 5, 1, 2, 3, 0, 4] 7 (by decide) (by decide)
      have h5 : SatL H6 (rowsY ((p.1, ⟨a', c', p.2.bs⟩) :: new) :: mapA I64 encY fb' (mset p.1 ⟨a', c', p.2.bs⟩ m') :: diskC db s :: rngA I64 encY it s.fb s.m (dn ++ [p]) :: rowsY s.m :: pendA s :: F) := by
        rw [rowsY_cons]; exact satL_sep.2 h4
      exact h5.ordt [1, 2, 3, 4, 5, 0] 6 (by decide) (by decide)
    · obtain ⟨hc4, _⟩ := h.rg_count 3 rfl
      rw [List.length_append, List.length_singleton] at hc4
      simp only; omega
end
end Go.Proofs.Ytomdcdfcdeaabaa
