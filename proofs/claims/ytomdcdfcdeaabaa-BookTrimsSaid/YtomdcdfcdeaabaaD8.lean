/-
  Disk's law: alive; every row of calls.
-/
import Derived.Test.YtomdcdfcdeaabaaD7
import Derived.Test.YtomdcdfcdeaabaaRW
set_option linter.unusedVariables false
set_option linter.unusedSimpArgs false
namespace Go.Nm
open Go
/-- A row that is a literal's: it may be read. -/
abbrev litA (b : Nat) (cs : List Value) (e : TypeId) : Assn := pt b (.cells cs.toArray e (cs.length, cs.length + 1))
theorem SatL.lit_rd {H : Heap} {L : List Assn} {b e : Nat} {cs : List Value} (h : SatL H L) (i : Nat) (hA : nth i L = litA b cs e) : rdS H (some ⟨b, 0, none⟩) cs := fun j v hj => ⟨rfl, by
  have h2 := h.foc i
  rw [hA] at h2
  have h3 := h2.get
  rw [lget_eq'] at hj
  simp [cellAt, h3, adrB, adrO, hj]⟩
theorem conv_same {P : Program} {t e b n c : Nat} {cs : List Value} {H : Heap} {L : List Assn} {K : Value → Heap → Prop} (ht : P.underlying t = some (.slice e)) (he : P.underlying e = some (.int .u8)) (h : SatL H (cellsA b cs e :: L))
    (k : ∀ H', SatL H' (litA b cs e :: L) → K (.slice (some ⟨b, 0, none⟩) n c) H') : RunW P (convert t t (.slice (some ⟨b, 0, none⟩) n c)) H K := by
  intro w hw
  subst hw
  have hb : w.heap[b]? = some (.cells cs.toArray e (0, 0)) := Sat.get h
  refine ⟨.slice (some ⟨b, 0, none⟩) n c, w.freeze ⟨b, cs.length, none⟩ 1, ?_, ⟨rfl, rfl, rfl⟩, k _ ?_⟩
  · have hs : w.shape? b = some (e, cs.length) := by simp [World.shape?, hb]
    simp only [convert, Sem.run_bind, run_underlying ht, Result.andThen_ok, beq_self_eq_true, run_underlying he, markStringish, shape, freeze, Sem.run, hs, Sem.bind, Sem.run_pure]
  · refine Sat.upd h ?_ fun i hi => ?_
    · simp only [World.freeze]
      rw [if_neg (by decide), Array.getElem?_modify, if_pos rfl, hb]; rfl
    · simp only [World.freeze]
      rw [if_neg (by decide), Array.getElem?_modify, if_neg (fun e => hi e.symm)]
end Go.Nm
namespace Go.Proofs.Ytomdcdfcdeaabaa
open Go Go.Nm Go.Proofs

section
variable {F L : List Assn} {H : Heap} {K : Value → Heap → Prop}

def w5 : DR := [(1, 97), (1, 98), (1, 99), (1, 100), (0, 101)]
theorem files5 : filesOf w5 = [0, 1] := rising_eq (filesOf_rising _) (by decide) fun x => by
  rw [mem_filesOf]
  simp only [w5, List.map_cons, List.map_nil, List.mem_cons, List.not_mem_nil, or_false]
  omega

theorem alive_spec (h : SatL H F) (k : ∀ H', SatL H' F → K (.bool true) H') : CallF Try.prog 13 #[] H K := by
  refine alive.call ?_
  unfold alive.code
  have c32 := fun {H : Heap} {L : List Assn} {K : Value → Heap → Prop} {b n c : Nat} {cs : List Value} => conv_same (P := Try.prog) (t := 32) (e := 5) (H := H) (L := L) (K := K) (b := b) (n := n) (c := c) (cs := cs) Try.underlying32 Try.underlying5
  refine New_spec h fun db H1 h => ⟨_, rfl, fun hf => (by cases hf), fun _ => ?_⟩
  refine h.al fun b _ h => c32 h fun H2 h => ⟨_, _, _, rfl, ?_⟩
  refine h.al fun b1 _ h => c32 h fun H3 h => ⟨_, _, _, rfl, ?_⟩
  refine h.al fun b2 _ h => ?_
  refine Append_spec (F := cellsA b2 [.slice (some ⟨b, 0, none⟩) 1 1, .slice (some ⟨b1, 0, none⟩) 1 1] 32 :: litA b1 [U8 98] 5 :: litA b [U8 97] 5 :: F) (pc := 2) (parts := [⟨some ⟨b, 0, none⟩, 1, [97]⟩, ⟨some ⟨b1, 0, none⟩, 1, [98]⟩]) (Nat.le_of_ble_eq_true rfl) (Nat.le_of_ble_eq_true rfl)
    (fun H' h' => ⟨h'.ce_rd 0 rfl, fun p hp => ?_⟩) (h.ordt [3, 0, 1, 2] 4 (by decide) (by decide)) (fun hf => absurd hf (by decide)) fun _ H4 h => ⟨_, rfl, ?_⟩
  · simp only [List.mem_cons, List.not_mem_nil, or_false] at hp
    rcases hp with rfl | rfl
    · exact h'.lit_rd 2 rfl
    · exact h'.lit_rd 1 rfl
  refine Sync_spec h fun H5 h => ⟨rfl, ?_⟩
  have h : SatL H5 (diskX db [(1, 97), (1, 98)] 2 :: F) := h.ordt [0] 4 (by decide) (by decide)
  refine h.al fun b3 _ h => c32 h fun H6 h => ⟨_, _, _, rfl, ?_⟩
  refine h.al fun b4 _ h => ?_
  refine Append_spec (F := cellsA b4 [.slice (some ⟨b3, 0, none⟩) 2 2] 32 :: litA b3 [U8 99, U8 100] 5 :: F) (pc := 1) (parts := [⟨some ⟨b3, 0, none⟩, 2, [99, 100]⟩]) (Nat.le_of_ble_eq_true rfl) (Nat.le_of_ble_eq_true rfl)
    (fun H' h' => ⟨h'.ce_rd 0 rfl, fun p hp => ?_⟩) (h.ordt [2, 0, 1] 3 (by decide) (by decide)) (fun hf => absurd hf (by decide)) fun _ H7 h => ⟨_, rfl, ?_⟩
  · simp only [List.mem_cons, List.not_mem_nil, or_false] at hp
    subst hp
    exact h'.lit_rd 1 rfl
  have h : SatL H7 (diskX db [(1, 97), (1, 98), (1, 99), (1, 100)] 2 :: F) := h.ordt [0] 3 (by decide) (by decide)
  refine h.al fun b5 _ h => c32 h fun H8 h => ⟨_, _, _, rfl, ?_⟩
  refine h.al fun b6 _ h => ?_
  refine Append_spec (F := cellsA b6 [.slice (some ⟨b5, 0, none⟩) 1 1] 32 :: litA b5 [U8 101] 5 :: F) (pc := 1) (parts := [⟨some ⟨b5, 0, none⟩, 1, [101]⟩]) (Nat.le_of_ble_eq_true rfl) (Nat.le_of_ble_eq_true rfl)
    (fun H' h' => ⟨h'.ce_rd 0 rfl, fun p hp => ?_⟩) (h.ordt [2, 0, 1] 3 (by decide) (by decide)) (fun hf => absurd hf (by decide)) fun _ H9 h => ⟨_, rfl, ?_⟩
  · simp only [List.mem_cons, List.not_mem_nil, or_false] at hp
    subst hp
    exact h'.lit_rd 1 rfl
  have h : SatL H9 (diskX db w5 2 :: F) := h.ordt [0] 3 (by decide) (by decide)
  refine Delete_spec h (fun hf => absurd hf (by decide)) (fun _ _ H10 h => ⟨_, rfl, ?_⟩) fun _ hf => absurd (show 2 < 5 by decide) hf
  refine Pending_spec (by decide) h fun H11 h => ⟨_, rfl, ?_⟩
  refine Clone_spec (by decide) h fun dx H12 h => ⟨_, rfl, ?_⟩
  refine Crash_spec (keep := 1) (F := diskX dx w5 2 :: F) ⟨by decide, by decide⟩ (by decide) (h.ordt [1, 0] 2 (by decide) (by decide)) fun H13 h => ⟨rfl, ?_⟩
  have h : SatL H13 (diskX db [(1, 97), (1, 98), (1, 99)] 3 :: diskX dx w5 2 :: F) := h
  refine Read_spec (by decide) h (fun hf => absurd hf (by decide)) fun _ a c H14 h => ⟨_, _, _, _, rfl, ?_⟩
  have h : SatL H14 (slA 5 1 a 3 c [U8 97, U8 98, U8 99] :: diskX db [(1, 97), (1, 98), (1, 99)] 3 :: diskX dx w5 2 :: F) := h
  refine Read_spec (F := slA 5 1 a 3 c [U8 97, U8 98, U8 99] :: diskX dx w5 2 :: F) (by decide) (h.ordt [1, 0, 2] 3 (by decide) (by decide)) (fun _ H15 h => ⟨_, _, _, _, rfl, ?_⟩) fun hf => absurd (show bytesOf 0 [(1, 97), (1, 98), (1, 99)] = [] by decide) hf
  refine Delete_spec h (fun hf => absurd hf (by decide)) (fun _ hf => absurd hf (by decide)) fun _ _ H16 h => ⟨_, rfl, fun hf => (by cases hf), fun _ => ?_⟩
  have h : SatL H16 (diskX db [] 0 :: slA 5 1 a 3 c [U8 97, U8 98, U8 99] :: diskX dx w5 2 :: F) := h
  intro Jn hJ
  refine ⟨fun _ => ?_, fun hf => absurd (by decide) hf⟩
  refine h.al fun b7 _ h => c32 h fun H17 h => ⟨_, _, _, rfl, ?_⟩
  refine ⟨_, SameBytes_spec (xs := [97, 98, 99]) (ys := [97, 98, 99]) (h.sl_rd 2 rfl) (h.lit_rd 0 rfl) (by decide), ?_⟩
  rw [decide_eq_true rfl]
  refine ⟨fun _ => ?_, fun hf => absurd rfl hf⟩
  refine Size_spec (F := diskX dx w5 2 :: F) (by decide) (h.ordt [1, 3] 4 (by decide) (by decide)) fun H18 h => ⟨_, rfl, fun _ => ?_, fun hf => absurd (by decide) hf⟩
  refine Size_spec (F := diskX db [] 0 :: F) (by decide) (h.ordt [1, 0] 2 (by decide) (by decide)) fun H19 h => ⟨_, rfl, fun _ => ?_, fun hf => absurd (by decide) hf⟩
  refine Files_spec (by decide) h fun fa fc H20 h => ⟨_, _, _, rfl, ?_⟩
  rw [files5] at h ⊢
  refine h.al fun b8 _ h => ⟨_, SameInts_spec (xs := [0, 1]) (ys := [0, 1]) (h.sl_rd 1 rfl) (h.ce_rd 0 rfl) (by decide), ?_⟩
  rw [decide_eq_true rfl]
  refine ⟨fun _ => ?_, fun hf => absurd rfl hf⟩
  refine Append_spec (parts := []) (F := F) (by decide) (by decide) (fun H' h' => ⟨rdS_nil _ _, fun p hp => (by cases hp)⟩) (h.ordt [3] 4 (by decide) (by decide)) (fun _ H21 h => ⟨_, rfl, hJ _ _ ?_⟩) fun hf => absurd (by decide) hf
  unfold alive.r1
  exact k _ h.tl
end

def CallOk (H0 : Heap) (x : CD) : Prop := rdS H0 x.a (x.bs.map U8) ∧ wf64 x.keep
theorem reads_bytes {H : Type} {enc : TypeId × Value → H} {W : World} {cs : List Value} (h : Reads enc Try.prog W 32 cs) :
    ∃ a c bs, cs = [.slice a (List.length bs) c] ∧ bs.length ≤ maxLen ∧ rdS W.heap a (bs.map U8) ∧ ∀ x ∈ bs, 0 ≤ x ∧ x ≤ 255 := by
  obtain ⟨a, c, bs, e, hl, hr, hq⟩ := reads_rows (ec := fun x : Int => [U8 x]) (Q := fun x => 0 ≤ x ∧ x ≤ 255) Try.underlying32 (by kernel_rfl) (by decide) h (fun us hu _ => by
      obtain ⟨n, e, h1, h2⟩ := reads_int Try.underlying5 hu
      exact ⟨n, e, h1, h2⟩) (fun _ => rfl)
  have ef : ∀ xs : List Int, flat (fun x => [U8 x]) xs = xs.map U8 := by
    intro xs
    induction xs with
    | nil => rfl
    | cons x r ih => rw [flat_cons, ih]; rfl
  rw [ef] at hr
  exact ⟨a, c, bs, e, hl, hr, hq⟩
theorem reads_calls {H : Type} {enc : TypeId × Value → H} {W : World} {cs : List Value} (h : Reads enc Try.prog W 22 cs) :
    ∃ a c calls, cs = [.slice a (List.length calls) c] ∧ calls.length ≤ maxLen ∧ rdS W.heap a (flat encC calls) ∧ ∀ x ∈ calls, CallOk W.heap x := by
  refine reads_rows (sz := 4) Try.underlying22 (by kernel_rfl) (by decide) h (fun vs hv hl => ?_) encC_len
  obtain ⟨_, hf⟩ := reads_struct Try.underlying34 hv
  have c3 : Try.prog.cellsOf 3 = 1 := by kernel_rfl
  have c32 : Try.prog.cellsOf 32 = 1 := by kernel_rfl
  simp only [List.mem_cons, List.not_mem_nil, or_false, forall_eq_or_imp, forall_eq, c3, c32] at hf
  obtain ⟨f1, f2, f3, f4⟩ := hf
  match vs, hl with
  | [x, y, z, u], _ =>
    simp only [List.drop_zero, List.take_succ_cons, List.take_zero, List.drop_succ_cons] at f1 f2 f3 f4
    obtain ⟨n1, e1, _, _⟩ := reads_int Try.underlying3 f1
    obtain ⟨n2, e2, _, _⟩ := reads_int Try.underlying3 f2
    obtain ⟨n3, e3, l3, u3⟩ := reads_int Try.underlying3 f3
    obtain ⟨a, c, bs, e4, _, hr, _⟩ := reads_bytes f4
    simp only [List.cons.injEq, and_true] at e1 e2 e3 e4
    subst e1; subst e2; subst e3; subst e4
    exact ⟨⟨n1, n2, n3, a, c, bs⟩, rfl, hr, l3, u3⟩

section
variable {H0 : Heap} {ca : Option Addr} {cc : Nat} {calls : List CD}

theorem great_no {calls : List CD} (h : (!decide (calls.length ≤ 60 ∧ ∀ x ∈ calls, x.bs.length ≤ 200)) = false) : calls.length ≤ 60 ∧ ∀ x ∈ calls, x.bs.length ≤ 200 := by simpa using h

theorem DiskCalls_true {file : Int} (hlen0 : calls.length ≤ maxLen) (hc : rdS H0 ca (flat encC calls)) (hq : ∀ x ∈ calls, CallOk H0 x) :
    CallF Try.prog 3 #[.slice ca calls.length cc, I64 file] H0 fun v H' => v = .bool true ∧ Grow H0 H' := by
  refine DiskCalls.call ?_
  unfold DiskCalls.code
  refine alive_spec (sat0 H0) fun H1 h => ⟨_, rfl, fun hc => (by cases hc), fun _ => ?_⟩
  refine ⟨_, Great_spec (h.old_rd 0 rfl hc) hlen0, fun _ => ⟨rfl, h.old_grow 0 rfl⟩, fun hg => ?_⟩
  obtain ⟨hlen, hbig⟩ := great_no hg
  refine New_spec h fun db H2 h => ⟨_, rfl, h.al fun rb _ h => ⟨fun hc => (by cases hc), fun _ => ?_⟩⟩
  have h := (refX_shut (rows := []) (syn := 0) ((h.sl_nil 105 2).ordt [1, 0, 2] 3 (by decide) (by decide))).ordt [1, 0] 2 (by decide) (by decide)
  refine ⟨fun i H' => ∃ (k : Nat) (s : DR × Nat), i = k ∧ k ≤ calls.length ∧ s.2 ≤ s.1.length ∧ s.1.length ≤ 200 * k ∧ SatL H' [diskX db s.1 s.2, refX rb s.1 s.2, old H0], fun i _ => calls.length - i.toNat,
    ⟨0, ([], 0), rfl, Nat.zero_le _, Nat.le_refl _, Nat.le_refl _, h⟩, ?_⟩
  rintro i H4 ⟨k, s, rfl, hk, hs, hsl, h⟩
  unfold DiskCalls.l3
  refine ⟨fun hc1 => ?_, fun hc1 => ?_⟩
  · have hlt : k < calls.length := by have := of_decide_eq_true hc1; omega
    intro Jn hJ
    have hr := h.old_rd 2 rfl hc
    have hx := hq _ (List.getElem_mem hlt)
    have hxb := hbig _ (List.getElem_mem hlt)
    refine ⟨⟨by omega, by omega⟩, _, _, hr.some encC_len (by omega) hlt, _, _, _, _, _, _, hr.els encC_len hlt, ?_⟩
    generalize calls[k] = x at *
    refine Do_spec (s2 := s) (F := [old H0]) hx.2 (by omega) (by omega) (by omega) hs (fun H' h' => h'.old_rd 0 rfl hx.1) h fun r H5 hr h => ⟨_, rfl, ?_⟩
    rw [hr rfl]
    have hl2 := doD_len s x
    refine ⟨fun _ => Agree_spec (by omega) (doD_syn hs x) h fun H6 h => ⟨_, rfl, hJ _ _ ?_⟩, fun hf => absurd rfl hf⟩
    unfold DiskCalls.r1
    refine ⟨fun hf => (by cases hf), fun _ => ?_⟩
    rw [w64 (x := (k : Int) + 1) (by omega) (by omega)]
    exact ⟨⟨k + 1, _, rfl, hlt, doD_syn hs x, by omega, h⟩, by simp only [Int.toNat_natCast]; omega⟩
  have hb := bytesOf_length_le file s.1
  refine Read_spec (f := file) (by omega) h (fun hz H5 h => ⟨_, _, _, _, rfl, ?_⟩) fun hz ba bc H5 h => ⟨_, _, _, _, rfl, ?_⟩
  · refine RRead_spec (F := [diskX db s.1 s.2, old H0]) (f := file) (by omega) (h.ordt [1, 0, 2] 3 (by decide) (by decide)) fun ra rc H6 h => ⟨_, _, _, rfl, fun _ => ⟨by simp, h.old_grow 3 rfl⟩, fun hf => ?_⟩
    rw [hz] at hf; simp at hf
  · refine RRead_spec (F := [slA 5 1 ba (bytesOf file s.1).length bc ((bytesOf file s.1).map U8), diskX db s.1 s.2, old H0]) (f := file) (by omega) (h.ordt [2, 0, 1, 3] 4 (by decide) (by decide)) fun ra rc H6 h => ⟨_, _, _, rfl, fun hf => ?_, fun _ => ?_⟩
    · exfalso
      have := List.length_pos_iff.2 hz
      have := of_decide_eq_true hf
      omega
    refine ⟨fun i H' => ∃ (j : Nat) (bs : List Int), i = j ∧ j ≤ (bytesOf file s.1).length ∧ bs.length = (bytesOf file s.1).length ∧ SatL H' [slA 5 1 ba (bytesOf file s.1).length bc (bs.map U8), slA 5 1 ra (bytesOf file s.1).length rc ((bytesOf file s.1).map U8), diskX db s.1 s.2, old H0], fun i _ => (bytesOf file s.1).length - i.toNat,
      ⟨0, bytesOf file s.1, rfl, Nat.zero_le _, rfl, h.ordt [2, 0, 3, 4] 5 (by decide) (by decide)⟩, ?_⟩
    rintro i H7 ⟨j, bs, rfl, hj, hbl, h⟩
    unfold DiskCalls.l2
    refine ⟨fun hc2 => ?_, fun hc2 => ?_⟩
    · have hlt : j < (bytesOf file s.1).length := by have := of_decide_eq_true hc2; omega
      have hr := (h.sl_rd 0 rfl).at (j := j) (by omega)
      have hst := h.sl_set 0 rfl j [U8 (IntKind.u8.wrap (bs[j] + 1))] (by simp only [List.length_map, List.length_singleton]; omega) (by simp)
      refine ⟨⟨by omega, by omega⟩, _, _, hr.1, _, hr.2, ⟨by omega, by omega⟩, _, _, hr.1, hst.2.1, ?_⟩
      rintro H8 rfl
      have h7 := hst.2.2
      rw [setsL_map1] at h7
      rw [w64 (x := (j : Int) + 1) (by omega) (by omega)]
      exact ⟨⟨j + 1, _, rfl, hlt, by rw [List.length_set]; exact hbl, h7⟩, by simp only [Int.toNat_natCast]; omega⟩
    · refine Read_spec (f := file) (F := [slA 5 1 ra (bytesOf file s.1).length rc ((bytesOf file s.1).map U8), old H0]) (by omega) (h.ordt [2, 1, 3] 4 (by decide) (by decide)) (fun hf => absurd hf hz) fun _ ca2 cc2 H9 h => ⟨_, _, _, _, rfl, _, fun _ => SameBytes_spec (h.sl_rd 0 rfl) (h.sl_rd 2 rfl) (by omega), ?_, h.old_grow 3 rfl⟩
      simp
end
end Go.Proofs.Ytomdcdfcdeaabaa
