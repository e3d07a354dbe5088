/-
  Readers: the code's, and the document's.
-/
import Derived.Test.YtomdcdfcdeaabaaRE
import Derived.Test.YtomdcdfcdeaabaaD7
import Derived.Laws.BytesArg
import Derived.Laws.IdiomStrings
set_option linter.unusedVariables false
set_option linter.unusedSimpArgs false
namespace Go.Nm
open Go
/-- A reader's error and rest. -/
structure RS where
  e : Int
  bs : List Int
def cRes (most : Int) (s : RS) : Int × RS := if s.e ≠ 0 then (0, s) else match rdU 0 0 s.bs with
  | .ok u n => if max most 0 < (u : Int) then (0, ⟨17, s.bs⟩) else (u, ⟨0, s.bs.drop n⟩)
  | .form => (0, ⟨10, s.bs⟩)
  | .ended => (0, ⟨15, s.bs⟩)
def tRes (most : Int) (s : RS) : List Int × RS := if s.e ≠ 0 then ([], s) else match rdU 0 0 s.bs with
  | .ok u n => if max most 0 < (u : Int) then ([], ⟨17, s.bs⟩) else if s.bs.length < n + u then ([], ⟨15, s.bs⟩) else ((s.bs.drop n).take u, ⟨0, s.bs.drop (n + u)⟩)
  | .form => ([], ⟨10, s.bs⟩)
  | .ended => ([], ⟨15, s.bs⟩)
theorem rdU_size {bs : List Int} {u n : Nat} (hb : isBytes bs) (h : rdU 0 0 bs = .ok u n) : 0 < n ∧ n ≤ bs.length ∧ u < 18446744073709551616 := by
  obtain ⟨w, h1, h2, h3, _, _, _, h7⟩ := rdU_canon hb h (by omega)
  refine ⟨h2, by omega, ?_⟩
  simp only [Nat.mul_zero, Nat.pow_zero, Nat.mul_one] at h1 h7
  omega
def crdA (b : Nat) (s : RS) : Assn := exS fun p : Option Addr × Nat => cellsA b [.slice p.1 s.bs.length p.2, .int .i64 s.e] 148 * slA 5 1 p.1 s.bs.length p.2 (s.bs.map U8)
theorem crdA_iff {H : Heap} {b : Nat} {s : RS} {L : List Assn} : SatL H (crdA b s :: L) ↔ ∃ a c, SatL H (cellsA b [.slice a s.bs.length c, .int .i64 s.e] 148 :: slA 5 1 a s.bs.length c (s.bs.map U8) :: L) := by
  unfold crdA
  rw [satL_ex]
  constructor
  · rintro ⟨p, h⟩; exact ⟨p.1, p.2, satL_sep.1 h⟩
  · rintro ⟨a, c, h⟩; exact ⟨(a, c), satL_sep.2 h⟩
def strB (s : List Int) : ByteArray := strOfNums s
end Go.Nm
namespace Go.Proofs.Ytomdcdfcdeaabaa
open Go Go.Nm Go.Proofs
section
variable {F L : List Assn} {H : Heap} {K : Value → Heap → Prop}

theorem take_ok {b n c size : Nat} {a : Option Addr} (h : SatL H (cellsA b [.slice a n c, .int .i64 0] 148 :: F)) (hs : size ≤ n) (hc : n ≤ c)
    (k : ∀ H', SatL H' (cellsA b [.slice (slB a size c 1) (n - size) (c - size), .int .i64 0] 148 :: F) → K (.bool true) H') :
    CallF Try.prog 93 #[.pointer (some ⟨b, 0, none⟩), .int .i64 size, .int .i64 0] H K := by
  refine code_Reader_take.call ?_
  unfold code_Reader_take.code
  refine ⟨_, h.rd 0 rfl _, (fun hf => by cases hf), fun _ => ⟨(fun hf => by cases hf), fun _ => ⟨_, _, _, h.rd 0 rfl _, ⟨by omega, by omega, by omega⟩, ?_⟩⟩⟩
  rw [Int.toNat_natCast]
  exact h.st 0 rfl rfl fun H' h => k _ h
theorem take_new {b n c : Nat} {size e : Int} {a : Option Addr} (h : SatL H (cellsA b [.slice a n c, .int .i64 0] 148 :: F)) (he : e ≠ 0)
    (k : ∀ H', SatL H' (cellsA b [.slice a n c, .int .i64 e] 148 :: F) → K (.bool false) H') :
    CallF Try.prog 93 #[.pointer (some ⟨b, 0, none⟩), .int .i64 size, .int .i64 e] H K := by
  refine code_Reader_take.call ?_
  unfold code_Reader_take.code
  refine ⟨_, h.rd 0 rfl _, (fun hf => by cases hf), fun _ => ⟨fun _ => ?_, fun hf => by simp [he] at hf⟩⟩
  exact h.st 0 rfl rfl fun H' h => k _ h
theorem take_err {b n c : Nat} {size e e0 : Int} {a : Option Addr} (h : SatL H (cellsA b [.slice a n c, .int .i64 e0] 148 :: F)) (he : e0 ≠ 0)
    (k : K (.bool false) H) : CallF Try.prog 93 #[.pointer (some ⟨b, 0, none⟩), .int .i64 size, .int .i64 e] H K := by
  refine code_Reader_take.call ?_
  unfold code_Reader_take.code
  exact ⟨_, h.rd 0 rfl _, fun _ => k, fun hf => by simp [he] at hf⟩

theorem Err_spec {b n c : Nat} {e : Int} {a : Option Addr} (h : SatL H (cellsA b [.slice a n c, .int .i64 e] 148 :: F)) : CallQ Try.prog 74 #[.pointer (some ⟨b, 0, none⟩)] H (.int .i64 e) := by
  unfold CallQ
  refine code_Reader_Err.call ?_
  unfold code_Reader_Err.code
  exact ⟨_, h.rd 0 rfl _, rfl, rfl⟩
theorem Left_spec {b n c : Nat} {e : Int} {a : Option Addr} (h : SatL H (cellsA b [.slice a n c, .int .i64 e] 148 :: F)) : CallQ Try.prog 72 #[.pointer (some ⟨b, 0, none⟩)] H (.int .i64 n) := by
  unfold CallQ
  refine code_Reader_Left.call ?_
  unfold code_Reader_Left.code
  exact ⟨_, _, _, h.rd 0 rfl _, rfl, rfl⟩
theorem ErrX_spec {b : Nat} {s : RS} (h : SatL H (crdA b s :: F)) : CallQ Try.prog 74 #[.pointer (some ⟨b, 0, none⟩)] H (.int .i64 s.e) := by
  obtain ⟨a, c, h⟩ := crdA_iff.1 h
  exact Err_spec h
theorem LeftX_spec {b : Nat} {s : RS} (h : SatL H (crdA b s :: F)) : CallQ Try.prog 72 #[.pointer (some ⟨b, 0, none⟩)] H (.int .i64 s.bs.length) := by
  obtain ⟨a, c, h⟩ := crdA_iff.1 h
  exact Left_spec h

theorem CNew_spec {a : Option Addr} {c : Nat} {bs : List Int} (h : SatL H F) (ha : ∀ H, SatL H F → rdS H a (bs.map U8)) (hl : bs.length ≤ 1099511627776)
    (k : ∀ b H', SatL H' (crdA b ⟨0, bs⟩ :: F) → K (.pointer (some ⟨b, 0, none⟩)) H') : CallF Try.prog 71 #[.slice a bs.length c] H K := by
  refine code_New.call ?_
  unfold code_New.code
  refine bClone_own h ha hl fun a' c' H1 h => ⟨_, _, _, rfl, ?_⟩
  refine h.al fun b H2 h => k _ _ ?_
  exact crdA_iff.2 ⟨_, _, h⟩

theorem Count_spec {b : Nat} {s : RS} {most : Int} (h : SatL H (crdA b s :: F)) (hb : isBytes s.bs) (hl : s.bs.length ≤ 1099511627776) (hm : wf64 most)
    (k : ∀ H', SatL H' (crdA b (cRes most s).2 :: F) → K (.int .i64 (cRes most s).1) H') :
    CallF Try.prog 95 #[.pointer (some ⟨b, 0, none⟩), .int .i64 most] H K := by
  obtain ⟨e, bs⟩ := s
  dsimp only at hb hl
  obtain ⟨a, c, h⟩ := crdA_iff.1 h
  dsimp only at h
  have hr := h.sl_rd 1 rfl
  have hn := h.sl_nc 1 rfl
  refine code_Reader_Count.call ?_
  unfold code_Reader_Count.code
  have hq := count_spec (c := c) hr hb hl hm
  have fin : ∀ r1 e' : Int, ∀ (r : Int) , (cRes most ⟨e, bs⟩ = (0, ⟨e', bs⟩)) → (∀ K', (∀ H', SatL H' (cellsA b [.slice a bs.length c, .int .i64 e'] 148 :: slA 5 1 a bs.length c (bs.map U8) :: F) → K' (.bool false) H') → CallF Try.prog 93 #[.pointer (some ⟨b, 0, none⟩), .int .i64 r1, .int .i64 r] H K') →
      CallF Try.prog 93 #[.pointer (some ⟨b, 0, none⟩), .int .i64 r1, .int .i64 r] H fun u H_ => ∃ r3 : Bool, u = (.bool r3) ∧ (((!r3)) = true → K (.int .i64 0) H_) ∧ (((!r3)) = false → K (.int .i64 (cRes most ⟨e, bs⟩).1) H_) := by
    intro r1 e' r he hk
    rw [he] at k ⊢
    exact hk _ fun H' h' => ⟨_, rfl, fun _ => k _ (crdA_iff.2 ⟨_, _, h'⟩), fun hf => by cases hf⟩
  by_cases he : e = 0
  · subst he
    cases hu : rdU 0 0 bs with
    | ok u n =>
      obtain ⟨h1, h2, h3⟩ := rdU_size hb hu
      rw [hu] at hq
      unfold cntV at hq
      dsimp only at hq
      by_cases hm1 : max most 0 < (u : Int)
      · rw [if_pos hm1] at hq
        refine ⟨_, _, _, h.rd 0 rfl _, _, _, _, hq, ?_⟩
        have hk := fin 0 17 17 (by unfold cRes; simp [hu, hm1]) fun K' k' => take_new h (by decide) k'
        have e0 : (cRes most ⟨0, bs⟩).1 = 0 := by unfold cRes; simp [hu, hm1]
        rw [e0] at hk
        exact hk
      · rw [if_neg hm1] at hq
        refine ⟨_, _, _, h.rd 0 rfl _, _, _, _, hq, ?_⟩
        have ec : cRes most ⟨0, bs⟩ = ((u : Int), ⟨0, bs.drop n⟩) := by unfold cRes; simp [hu, hm1]
        rw [ec] at k
        refine take_ok h h2 hn fun H' h' => ⟨_, rfl, (fun hf => by cases hf), fun _ => k _ ?_⟩
        have h4 := h'.sl_drop 1 rfl n h2
        rw [Nat.mul_one, ← List.map_drop] at h4
        refine crdA_iff.2 ⟨slB a n c 1, c - n, ?_⟩
        dsimp only
        rw [List.length_drop]
        exact h4
    | form =>
      rw [hu] at hq
      refine ⟨_, _, _, h.rd 0 rfl _, _, _, _, hq, ?_⟩
      have hk := fin 0 10 10 (by unfold cRes; simp [hu]) fun K' k' => take_new h (by decide) k'
      have e0 : (cRes most ⟨0, bs⟩).1 = 0 := by unfold cRes; simp [hu]
      rw [e0] at hk
      exact hk
    | ended =>
      rw [hu] at hq
      refine ⟨_, _, _, h.rd 0 rfl _, _, _, _, hq, ?_⟩
      have hk := fin 0 15 15 (by unfold cRes; simp [hu]) fun K' k' => take_new h (by decide) k'
      have e0 : (cRes most ⟨0, bs⟩).1 = 0 := by unfold cRes; simp [hu]
      rw [e0] at hk
      exact hk
  · have ec : cRes most ⟨e, bs⟩ = (0, ⟨e, bs⟩) := by unfold cRes; simp [he]
    rw [ec] at k
    have hv : ∃ r r1 r2 : Int, cntV most (rdU 0 0 bs) = .tuple #[.int .i64 r, .int .i64 r1, .int .i64 r2] := by
      unfold cntV
      split
      · split <;> exact ⟨_, _, _, rfl⟩
      · exact ⟨_, _, _, rfl⟩
      · exact ⟨_, _, _, rfl⟩
    obtain ⟨r, r1, r2, hv⟩ := hv
    rw [hv] at hq
    refine ⟨_, _, _, h.rd 0 rfl _, _, _, _, hq, ?_⟩
    exact take_err h he ⟨_, rfl, fun _ => k _ (crdA_iff.2 ⟨_, _, h⟩), fun hf => by cases hf⟩

theorem str_read {H : Heap} {a : Option Addr} {c : Nat} {bs : List Int} (hA : a = none ∨ ∃ b o, a = some ⟨b, o, none⟩) (ha : rdS H a (bs.map U8)) : ReadRun Try.prog (convert 32 9 (.slice a bs.length c)) H (.string (strB bs)) := by
  intro w hw
  subst hw
  rcases hA with rfl | ⟨b, o, rfl⟩
  · have := rdS_none ha
    have hb : bs = [] := by simpa using this
    subst hb
    exact run_convert_bytes_nil w 32 5 (by kernel_rfl) (by kernel_rfl) _ _ 9 (by kernel_rfl)
  · refine run_convert_bytes_arg w 32 5 (by kernel_rfl) (by kernel_rfl) b o _ c bs rfl (fun i hi => ?_) 9 (by kernel_rfl)
    have h1 := (ha.at hi).2
    simp only [adrB, adrO] at h1
    rw [show bs.getD i 0 = bs[i] by simp [List.getD, List.getElem?_eq_getElem hi]]
    rw [cell?_cellAt]
    exact h1
theorem slB_is {e sz n c k : Nat} {a : Option Addr} {cs : List Value} (h : SatL H (slA e sz a n c cs :: F)) : slB a k c sz = none ∨ ∃ b o, slB a k c sz = some ⟨b, o, none⟩ := by
  have h2 : a = none ∨ ∃ b o, a = some ⟨b, o, none⟩ := by
    rcases (slA_open (F := star F) h).2 with ⟨h2, _⟩ | ⟨b, pre, post, e', fr, h2, _⟩
    · exact .inl h2
    · exact .inr ⟨_, _, h2⟩
  unfold slB
  split
  · exact h2
  · rcases h2 with rfl | ⟨b, o, rfl⟩
    · exact .inl rfl
    · right
      rw [Option.map_some, Addr_add]
      exact ⟨_, _, rfl⟩

theorem Text_spec {b : Nat} {s : RS} {most : Int} (h : SatL H (crdA b s :: F)) (hb : isBytes s.bs) (hl : s.bs.length ≤ 1099511627776) (hm : wf64 most)
    (k : ∀ H', SatL H' (crdA b (tRes most s).2 :: F) → K (.string (strB (tRes most s).1)) H') :
    CallF Try.prog 73 #[.pointer (some ⟨b, 0, none⟩), .int .i64 most] H K := by
  obtain ⟨e, bs⟩ := s
  dsimp only at hb hl
  obtain ⟨a, c, h⟩ := crdA_iff.1 h
  dsimp only at h
  have hr := h.sl_rd 1 rfl
  have hn := h.sl_nc 1 rfl
  refine code_Reader_Text.call ?_
  unfold code_Reader_Text.code
  have hq := count_spec (c := c) hr hb hl hm
  have fin : ∀ (r r1 err e' : Int), tRes most ⟨e, bs⟩ = ([], ⟨e', bs⟩) → (∀ K' : Value → Heap → Prop, (∀ H', SatL H' (cellsA b [.slice a bs.length c, .int .i64 e'] 148 :: slA 5 1 a bs.length c (bs.map U8) :: F) → K' (.bool false) H') → CallF Try.prog 93 #[.pointer (some ⟨b, 0, none⟩), .int .i64 (IntKind.i64.wrap (r1 + r)), .int .i64 err] H K') →
      code_Reader_Text.r1 b 0 K r r1 err H := by
    intro r r1 err e' he hk
    unfold code_Reader_Text.r1
    rw [he] at k
    refine ⟨_, _, _, h.rd 0 rfl _, ?_⟩
    exact hk _ fun H' h' => ⟨_, rfl, fun _ => k _ (crdA_iff.2 ⟨_, _, h'⟩), fun hf => by cases hf⟩
  by_cases he : e = 0
  · subst he
    cases hu : rdU 0 0 bs with
    | ok u n =>
      obtain ⟨h1, h2, h3⟩ := rdU_size hb hu
      rw [hu] at hq
      unfold cntV at hq
      dsimp only at hq
      by_cases hm1 : max most 0 < (u : Int)
      · rw [if_pos hm1] at hq
        refine ⟨_, _, _, h.rd 0 rfl _, _, _, _, hq, fun _ => trivial, _, _, _, fun _ => h.rd 0 rfl _, fun Jn hJ => ⟨fun hf => by simp at hf, fun _ => hJ _ _ ?_⟩⟩
        exact fin _ _ _ 17 (by unfold tRes; simp [hu, hm1]) fun K' k' => take_new h (by decide) k'
      · rw [if_neg hm1] at hq
        unfold wf64 at hm
        have hu2 : (u : Int) ≤ 9223372036854775807 := by omega
        have e1 : IntKind.i64.wrap (((bs.length : Nat) : Int) - (n : Int)) = ((bs.length - n : Nat) : Int) := by rw [w64 (by omega) (by omega)]; omega
        refine ⟨_, _, _, h.rd 0 rfl _, _, _, _, hq, fun _ => trivial, _, _, _, fun _ => h.rd 0 rfl _, fun Jn hJ => ⟨fun hc => hJ _ _ ?_, fun hc => hJ _ _ ?_⟩⟩
        · rw [e1] at hc
          have hlt : bs.length < n + u := by simp at hc; omega
          exact fin _ _ _ 15 (by unfold tRes; simp [hu, hm1, hlt]) fun K' k' => take_new h (by decide) k'
        · rw [e1] at hc
          have hge : ¬ bs.length < n + u := by simp at hc; omega
          have et : tRes most ⟨0, bs⟩ = ((bs.drop n).take u, ⟨0, bs.drop (n + u)⟩) := by unfold tRes; simp [hu, hm1, hge]
          rw [et] at k
          unfold code_Reader_Text.r1
          have e2 : IntKind.i64.wrap ((n : Int) + (u : Int)) = ((n + u : Nat) : Int) := by rw [w64 (by omega) (by omega)]; omega
          refine ⟨_, _, _, h.rd 0 rfl _, ?_⟩
          rw [e2]
          refine take_ok h (by omega) hn fun H' h' => ⟨_, rfl, (fun hf => by cases hf), fun _ => ⟨⟨by omega, by omega, by omega⟩, strB ((bs.drop n).take u), ?_, k _ ?_⟩⟩
          · rw [Int.toNat_natCast, Int.toNat_natCast, Nat.add_sub_cancel_left]
            have h5 := h'.tl.sl_rd 0 rfl
            have h6 := (h5.subB (k := n) (c := c) (by simpa using hn)).take u
            rw [← List.map_drop, ← List.map_take] at h6
            have h7 := str_read (c := c - n) (slB_is h'.tl) h6
            rw [List.length_take, List.length_drop, Nat.min_eq_left (by omega)] at h7
            exact h7
          · have h4 := h'.sl_drop 1 rfl (n + u) (by omega)
            rw [Nat.mul_one, ← List.map_drop] at h4
            refine crdA_iff.2 ⟨slB a (n + u) c 1, c - (n + u), ?_⟩
            dsimp only
            rw [List.length_drop]
            exact h4
    | form =>
      rw [hu] at hq
      refine ⟨_, _, _, h.rd 0 rfl _, _, _, _, hq, fun _ => trivial, _, _, _, fun _ => h.rd 0 rfl _, fun Jn hJ => ⟨fun hf => by simp at hf, fun _ => hJ _ _ ?_⟩⟩
      exact fin _ _ _ 10 (by unfold tRes; simp [hu]) fun K' k' => take_new h (by decide) k'
    | ended =>
      rw [hu] at hq
      refine ⟨_, _, _, h.rd 0 rfl _, _, _, _, hq, fun _ => trivial, _, _, _, fun _ => h.rd 0 rfl _, fun Jn hJ => ⟨fun hf => by simp at hf, fun _ => hJ _ _ ?_⟩⟩
      exact fin _ _ _ 15 (by unfold tRes; simp [hu]) fun K' k' => take_new h (by decide) k'
  · have hv : ∃ r r1 r2 : Int, cntV most (rdU 0 0 bs) = .tuple #[.int .i64 r, .int .i64 r1, .int .i64 r2] := by
      unfold cntV
      split
      · split <;> exact ⟨_, _, _, rfl⟩
      · exact ⟨_, _, _, rfl⟩
      · exact ⟨_, _, _, rfl⟩
    obtain ⟨r, r1, r2, hv⟩ := hv
    rw [hv] at hq
    have fin2 : ∀ err, code_Reader_Text.r1 b 0 K r r1 err H := fun err => fin r r1 err e (by unfold tRes; simp [he]) fun K' k' => take_err h he (k' _ h)
    exact ⟨_, _, _, h.rd 0 rfl _, _, _, _, hq, fun _ => trivial, _, _, _, fun _ => h.rd 0 rfl _, fun Jn hJ => ⟨fun hc => hJ _ _ (fin2 _), fun _ => hJ _ _ (fin2 _)⟩⟩

/-! ### the document's reader -/
theorem RdUint_spec {b c : Nat} {a : Option Addr} {bs : List Int} (h : SatL H (cellsA b [.slice a bs.length c, .int .i64 0] 158 :: F)) (hF : ∀ H, SatL H F → rdS H a (bs.map U8)) (hb : isBytes bs) (hl : bs.length ≤ 1099511627776) (hc : bs.length ≤ c)
    (k1 : ∀ u n H', rdU 0 0 bs = .ok u n → SatL H' (cellsA b [.slice (slB a n c 1) (bs.length - n) (c - n), .int .i64 0] 158 :: F) → K (.int .u64 u) H')
    (k2 : ∀ e H', (∀ u n, rdU 0 0 bs ≠ .ok u n) → e ≠ 0 → SatL H' (cellsA b [.slice a bs.length c, .int .i64 e] 158 :: F) → K (.int .u64 0) H') :
    CallF Try.prog 98 #[.pointer (some ⟨b, 0, none⟩)] H K := by
  refine R06_Reader_Uint.call ?_
  unfold R06_Reader_Uint.code
  refine ⟨_, h.rd 0 rfl _, (fun hf => by cases hf), fun _ => ?_⟩
  refine ⟨fun u i H' => ∃ k acc : Nat, i = k ∧ u = acc ∧ k ≤ 9 ∧ k ≤ bs.length ∧ acc < 2 ^ (7 * k) ∧ rdU acc k (bs.drop k) = rdU 0 0 bs ∧ SatL H' (cellsA b [.slice a bs.length c, .int .i64 0] 158 :: F), fun _ i _ => 10 - i.toNat,
    ⟨0, 0, rfl, rfl, by decide, Nat.zero_le _, by decide, rfl, h⟩, ?_⟩
  rintro u i H' ⟨k, acc, rfl, rfl, h9, hk, hacc, he, h⟩
  unfold R06_Reader_Uint.l1
  refine ⟨fun _ => ?_, fun hf => by simp at hf; omega⟩
  have e7 : IntKind.i64.wrap (7 * (k : Int)) = ((7 * k : Nat) : Int) := by rw [w64 (by omega) (by omega)]; omega
  have e7' : IntKind.u64.wrap ((7 * k : Nat) : Int) = ((7 * k : Nat) : Int) := u64w (by omega) (by omega)
  have ek : IntKind.i64.wrap ((k : Int) + 1) = ((k + 1 : Nat) : Int) := w64 (by omega) (by omega)
  refine ⟨_, _, _, h.rd 0 rfl _, fun hx => ?_, fun hx => ?_⟩
  · have hge : bs.length ≤ k := by simp at hx; omega
    refine h.st 0 rfl rfl fun H2 h => k2 15 _ ?_ (by decide) h
    rcases rstep hb k acc with ⟨_, e⟩ | ⟨h, _⟩ | ⟨h, _⟩
    · rw [← he, e]
      intro u n hf
      cases hf
    · omega
    · omega
  · have hlt : k < bs.length := by simp at hx; omega
    have h1 := (hF _ h.tl).at hlt
    refine ⟨_, _, _, h.rd 0 rfl _, ⟨by omega, by omega⟩, _, _, h1.1, _, h1.2, ?_⟩
    rcases rstep hb k acc with ⟨h, _⟩ | ⟨hk1, x, hx, h0, h1', hf, e1, e2⟩ | ⟨hk1, x, hx, hf, e⟩
    · omega
    · rw [hx]
      have hp := part64 (c := x) (i := k) h0 h1' h9 (fun e9 => by
        rcases Int.lt_or_le 1 x with h2 | h2
        · exact absurd (Or.inr ⟨h2, e9⟩) hf
        · exact h2)
      have hp1 : IntKind.u64.wrap (IntKind.u64.wrap (Int.tmod x 128) * 2 ^ (min (7 * k) IntKind.u64.bits)) = ((x.toNat % 128 * 2 ^ (7 * k) : Nat) : Int) := hp.1
      have hs : IntKind.u64.wrap ((acc : Int) + ((x.toNat % 128 * 2 ^ (7 * k) : Nat) : Int)) = ((acc + x.toNat % 128 * 2 ^ (7 * k) : Nat) : Int) := by
        rw [u64w (by omega) (by omega)]; omega
      refine ⟨fun hb1 => ?_, fun _ => ⟨by decide, by rw [e7, e7']; omega, fun hb2 => ?_, fun hb2 => ?_⟩⟩
      · exfalso
        apply hf
        simp only [Bool.or_eq_true, Bool.and_eq_true, decide_eq_true_eq] at hb1
        omega
      · rw [e7, e7', ek, Int.toNat_natCast, Int.toNat_natCast, hp1, hs]
        refine ⟨_, _, _, h.rd 0 rfl _, ⟨by omega, by omega, by omega⟩, ?_⟩
        have hr := e1 (by simpa using hb2)
        rw [he] at hr
        exact h.st 0 rfl rfl fun H2 h => k1 _ _ _ hr h
      · have hge : ¬ x < 128 := by simpa using hb2
        rw [e7, e7', ek, Int.toNat_natCast, hp1, hs]
        have k9 : k ≠ 9 := fun e9 => hf (Or.inr ⟨by omega, e9⟩)
        refine ⟨⟨k + 1, _, rfl, rfl, by omega, by omega, ?_, ?_, h⟩, by dsimp only; omega⟩
        · calc acc + x.toNat % 128 * 2 ^ (7 * k) < 2 ^ (7 * k) + x.toNat % 128 * 2 ^ (7 * k) := by omega
            _ = (x.toNat % 128 + 1) * 2 ^ (7 * k) := by rw [Nat.add_mul, Nat.one_mul, Nat.add_comm]
            _ ≤ 128 * 2 ^ (7 * k) := Nat.mul_le_mul_right _ (by omega)
            _ = 2 ^ (7 * (k + 1)) := by rw [show 7 * (k + 1) = 7 + 7 * k by omega, Nat.pow_add]
        · rw [← he, e2 hge]
    · rw [hx]
      refine ⟨fun _ => ?_, fun hb1 => ?_⟩
      · refine h.st 0 rfl rfl fun H2 h => k2 10 _ ?_ (by decide) h
        rw [← he, e]
        intro u n hf
        cases hf
      · exfalso
        simp only [Bool.or_eq_false_iff, Bool.and_eq_false_iff, decide_eq_false_iff_not] at hb1
        omega
theorem RNew_spec {c n : Nat} {a : Option Addr} (h : SatL H F) (k : ∀ b H', SatL H' (cellsA b [.slice a n c, .int .i64 0] 158 :: F) → K (.pointer (some ⟨b, 0, none⟩)) H') : CallF Try.prog 97 #[.slice a n c] H K := by
  refine R06_New.call ?_
  unfold R06_New.code
  exact h.al fun b H' h => k _ _ h
end
end Go.Proofs.Ytomdcdfcdeaabaa
