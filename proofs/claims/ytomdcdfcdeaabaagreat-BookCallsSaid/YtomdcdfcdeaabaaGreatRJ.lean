/-
  Readers: the code's, and the document's. Sealed bytes: both sides. Records, plainly. A record at the beginning of bytes: both sides. The records at the beginning of bytes: both sides.
-/
import Derived.Test.YtomdcdfcdeaabaaGreatRE
import Derived.Test.YtomdcdfcdeaabaaGreatD7
import Derived.Laws.BytesArg
import Derived.Laws.IdiomStrings
set_option linter.unusedVariables false
set_option linter.unusedSimpArgs false
namespace Go.Nm
open Go
/-- A reader's error and rest. -/
structure RS where
  e : Int
  bs : List Int
def cRes (most : Int) (s : RS) : Int × RS := if s.e ≠ 0 then (0, s) else match rdU 0 0 s.bs with
  | .ok u n => if max most 0 < (u : Int) then (0, ⟨17, s.bs⟩) else (u, ⟨0, s.bs.drop n⟩)
  | .form => (0, ⟨10, s.bs⟩)
  | .ended => (0, ⟨15, s.bs⟩)
def tRes (most : Int) (s : RS) : List Int × RS := if s.e ≠ 0 then ([], s) else match rdU 0 0 s.bs with
  | .ok u n => if max most 0 < (u : Int) then ([], ⟨17, s.bs⟩) else if s.bs.length < n + u then ([], ⟨15, s.bs⟩) else ((s.bs.drop n).take u, ⟨0, s.bs.drop (n + u)⟩)
  | .form => ([], ⟨10, s.bs⟩)
  | .ended => ([], ⟨15, s.bs⟩)
theorem rdU_size {bs : List Int} {u n : Nat} (hb : isBytes bs) (h : rdU 0 0 bs = .ok u n) : 0 < n ∧ n ≤ bs.length ∧ u < 18446744073709551616 := by
  obtain ⟨w, h1, h2, h3, _, _, _, h7⟩ := rdU_canon hb h (by omega)
  refine ⟨h2, by omega, ?_⟩
  simp only [Nat.mul_zero, Nat.pow_zero, Nat.mul_one] at h1 h7
  omega
def crdA (b : Nat) (s : RS) : Assn := exS fun p : Option Addr × Nat => cellsA b [.slice p.1 s.bs.length p.2, .int .i64 s.e] 132 * slA 5 1 p.1 s.bs.length p.2 (s.bs.map U8)
theorem crdA_iff {H : Heap} {b : Nat} {s : RS} {L : List Assn} : SatL H (crdA b s :: L) ↔ ∃ a c, SatL H (cellsA b [.slice a s.bs.length c, .int .i64 s.e] 132 :: slA 5 1 a s.bs.length c (s.bs.map U8) :: L) := by
  unfold crdA
  rw [satL_ex]
  constructor
  · rintro ⟨p, h⟩; exact ⟨p.1, p.2, satL_sep.1 h⟩
  · rintro ⟨a, c, h⟩; exact ⟨(a, c), satL_sep.2 h⟩
def strB (s : List Int) : ByteArray := strOfNums s
end Go.Nm
namespace Go.Proofs.YtomdcdfcdeaabaaGreat
open Go Go.Nm Go.Proofs
section
variable {F L : List Assn} {H : Heap} {K : Value → Heap → Prop}

theorem take_ok {b n c size : Nat} {a : Option Addr} (h : SatL H (cellsA b [.slice a n c, .int .i64 0] 132 :: F)) (hs : size ≤ n) (hc : n ≤ c)
    (k : ∀ H', SatL H' (cellsA b [.slice (slB a size c 1) (n - size) (c - size), .int .i64 0] 132 :: F) → K (.bool true) H') :
    CallF Tryz.prog 74 #[.pointer (some ⟨b, 0, none⟩), .int .i64 size, .int .i64 0] H K := by
  refine code_Reader_take.call ?_
  unfold code_Reader_take.code
  refine ⟨_, h.rd 0 rfl _, (fun hf => by cases hf), fun _ => ⟨(fun hf => by cases hf), fun _ => ⟨_, _, _, h.rd 0 rfl _, ⟨by omega, by omega, by omega⟩, ?_⟩⟩⟩
  rw [Int.toNat_natCast]
  exact h.st 0 rfl rfl fun H' h => k _ h
theorem take_new {b n c : Nat} {size e : Int} {a : Option Addr} (h : SatL H (cellsA b [.slice a n c, .int .i64 0] 132 :: F)) (he : e ≠ 0)
    (k : ∀ H', SatL H' (cellsA b [.slice a n c, .int .i64 e] 132 :: F) → K (.bool false) H') :
    CallF Tryz.prog 74 #[.pointer (some ⟨b, 0, none⟩), .int .i64 size, .int .i64 e] H K := by
  refine code_Reader_take.call ?_
  unfold code_Reader_take.code
  refine ⟨_, h.rd 0 rfl _, (fun hf => by cases hf), fun _ => ⟨fun _ => ?_, fun hf => by simp [he] at hf⟩⟩
  exact h.st 0 rfl rfl fun H' h => k _ h
theorem take_err {b n c : Nat} {size e e0 : Int} {a : Option Addr} (h : SatL H (cellsA b [.slice a n c, .int .i64 e0] 132 :: F)) (he : e0 ≠ 0)
    (k : K (.bool false) H) : CallF Tryz.prog 74 #[.pointer (some ⟨b, 0, none⟩), .int .i64 size, .int .i64 e] H K := by
  refine code_Reader_take.call ?_
  unfold code_Reader_take.code
  exact ⟨_, h.rd 0 rfl _, fun _ => k, fun hf => by simp [he] at hf⟩

theorem Err_spec {b n c : Nat} {e : Int} {a : Option Addr} (h : SatL H (cellsA b [.slice a n c, .int .i64 e] 132 :: F)) : CallQ Tryz.prog 61 #[.pointer (some ⟨b, 0, none⟩)] H (.int .i64 e) := by
  unfold CallQ
  refine code_Reader_Err.call ?_
  unfold code_Reader_Err.code
  exact ⟨_, h.rd 0 rfl _, rfl, rfl⟩
theorem Left_spec {b n c : Nat} {e : Int} {a : Option Addr} (h : SatL H (cellsA b [.slice a n c, .int .i64 e] 132 :: F)) : CallQ Tryz.prog 59 #[.pointer (some ⟨b, 0, none⟩)] H (.int .i64 n) := by
  unfold CallQ
  refine code_Reader_Left.call ?_
  unfold code_Reader_Left.code
  exact ⟨_, _, _, h.rd 0 rfl _, rfl, rfl⟩
theorem ErrX_spec {b : Nat} {s : RS} (h : SatL H (crdA b s :: F)) : CallQ Tryz.prog 61 #[.pointer (some ⟨b, 0, none⟩)] H (.int .i64 s.e) := by
  obtain ⟨a, c, h⟩ := crdA_iff.1 h
  exact Err_spec h
theorem LeftX_spec {b : Nat} {s : RS} (h : SatL H (crdA b s :: F)) : CallQ Tryz.prog 59 #[.pointer (some ⟨b, 0, none⟩)] H (.int .i64 s.bs.length) := by
  obtain ⟨a, c, h⟩ := crdA_iff.1 h
  exact Left_spec h

theorem CNew_spec {a : Option Addr} {c : Nat} {bs : List Int} (h : SatL H F) (ha : ∀ H, SatL H F → rdS H a (bs.map U8)) (hl : bs.length ≤ 1099511627776)
    (k : ∀ b H', SatL H' (crdA b ⟨0, bs⟩ :: F) → K (.pointer (some ⟨b, 0, none⟩)) H') : CallF Tryz.prog 58 #[.slice a bs.length c] H K := by
  refine code_New.call ?_
  unfold code_New.code
  refine bClone_own h ha hl fun a' c' H1 h => ⟨_, _, _, rfl, ?_⟩
  refine h.al fun b H2 h => k _ _ ?_
  exact crdA_iff.2 ⟨_, _, h⟩

theorem Count_spec {b : Nat} {s : RS} {most : Int} (h : SatL H (crdA b s :: F)) (hb : isBytes s.bs) (hl : s.bs.length ≤ 1099511627776) (hm : wf64 most)
    (k : ∀ H', SatL H' (crdA b (cRes most s).2 :: F) → K (.int .i64 (cRes most s).1) H') :
    CallF Tryz.prog 76 #[.pointer (some ⟨b, 0, none⟩), .int .i64 most] H K := by
  obtain ⟨e, bs⟩ := s
  dsimp only at hb hl
  obtain ⟨a, c, h⟩ := crdA_iff.1 h
  dsimp only at h
  have hr := h.sl_rd 1 rfl
  have hn := h.sl_nc 1 rfl
  refine code_Reader_Count.call ?_
  unfold code_Reader_Count.code
  have hq := count_spec (c := c) hr hb hl hm
  have fin : ∀ r1 e' : Int, ∀ (r : Int) , (cRes most ⟨e, bs⟩ = (0, ⟨e', bs⟩)) → (∀ K', (∀ H', SatL H' (cellsA b [.slice a bs.length c, .int .i64 e'] 132 :: slA 5 1 a bs.length c (bs.map U8) :: F) → K' (.bool false) H') → CallF Tryz.prog 74 #[.pointer (some ⟨b, 0, none⟩), .int .i64 r1, .int .i64 r] H K') →
      CallF Tryz.prog 74 #[.pointer (some ⟨b, 0, none⟩), .int .i64 r1, .int .i64 r] H fun u H_ => ∃ r3 : Bool, u = (.bool r3) ∧ (((!r3)) = true → K (.int .i64 0) H_) ∧ (((!r3)) = false → K (.int .i64 (cRes most ⟨e, bs⟩).1) H_) := by
    intro r1 e' r he hk
    rw [he] at k ⊢
    exact hk _ fun H' h' => ⟨_, rfl, fun _ => k _ (crdA_iff.2 ⟨_, _, h'⟩), fun hf => by cases hf⟩
  by_cases he : e = 0
  · subst he
    cases hu : rdU 0 0 bs with
    | ok u n =>
      obtain ⟨h1, h2, h3⟩ := rdU_size hb hu
      rw [hu] at hq
      unfold cntV at hq
      dsimp only at hq
      by_cases hm1 : max most 0 < (u : Int)
      · rw [if_pos hm1] at hq
        refine ⟨_, _, _, h.rd 0 rfl _, _, _, _, hq, ?_⟩
        have hk := fin 0 17 17 (by unfold cRes; simp [hu, hm1]) fun K' k' => take_new h (by decide) k'
        have e0 : (cRes most ⟨0, bs⟩).1 = 0 := by unfold cRes; simp [hu, hm1]
        rw [e0] at hk
        exact hk
      · rw [if_neg hm1] at hq
        refine ⟨_, _, _, h.rd 0 rfl _, _, _, _, hq, ?_⟩
        have ec : cRes most ⟨0, bs⟩ = ((u : Int), ⟨0, bs.drop n⟩) := by unfold cRes; simp [hu, hm1]
        rw [ec] at k
        refine take_ok h h2 hn fun H' h' => ⟨_, rfl, (fun hf => by cases hf), fun _ => k _ ?_⟩
        have h4 := h'.sl_drop 1 rfl n h2
        rw [Nat.mul_one, ← List.map_drop] at h4
        refine crdA_iff.2 ⟨slB a n c 1, c - n, ?_⟩
        dsimp only
        rw [List.length_drop]
        exact h4
    | form =>
      rw [hu] at hq
      refine ⟨_, _, _, h.rd 0 rfl _, _, _, _, hq, ?_⟩
      have hk := fin 0 10 10 (by unfold cRes; simp [hu]) fun K' k' => take_new h (by decide) k'
      have e0 : (cRes most ⟨0, bs⟩).1 = 0 := by unfold cRes; simp [hu]
      rw [e0] at hk
      exact hk
    | ended =>
      rw [hu] at hq
      refine ⟨_, _, _, h.rd 0 rfl _, _, _, _, hq, ?_⟩
      have hk := fin 0 15 15 (by unfold cRes; simp [hu]) fun K' k' => take_new h (by decide) k'
      have e0 : (cRes most ⟨0, bs⟩).1 = 0 := by unfold cRes; simp [hu]
      rw [e0] at hk
      exact hk
  · have ec : cRes most ⟨e, bs⟩ = (0, ⟨e, bs⟩) := by unfold cRes; simp [he]
    rw [ec] at k
    have hv : ∃ r r1 r2 : Int, cntV most (rdU 0 0 bs) = .tuple #[.int .i64 r, .int .i64 r1, .int .i64 r2] := by
      unfold cntV
      split
      · split <;> exact ⟨_, _, _, rfl⟩
      · exact ⟨_, _, _, rfl⟩
      · exact ⟨_, _, _, rfl⟩
    obtain ⟨r, r1, r2, hv⟩ := hv
    rw [hv] at hq
    refine ⟨_, _, _, h.rd 0 rfl _, _, _, _, hq, ?_⟩
    exact take_err h he ⟨_, rfl, fun _ => k _ (crdA_iff.2 ⟨_, _, h⟩), fun hf => by cases hf⟩

theorem str_read {H : Heap} {a : Option Addr} {c : Nat} {bs : List Int} (hA : a = none ∨ ∃ b o, a = some ⟨b, o, none⟩) (ha : rdS H a (bs.map U8)) : ReadRun Tryz.prog (convert 32 9 (.slice a bs.length c)) H (.string (strB bs)) := by
  intro w hw
  subst hw
  rcases hA with rfl | ⟨b, o, rfl⟩
  · have := rdS_none ha
    have hb : bs = [] := by simpa using this
    subst hb
    exact run_convert_bytes_nil w 32 5 (by kernel_rfl) (by kernel_rfl) _ _ 9 (by kernel_rfl)
  · refine run_convert_bytes_arg w 32 5 (by kernel_rfl) (by kernel_rfl) b o _ c bs rfl (fun i hi => ?_) 9 (by kernel_rfl)
    have h1 := (ha.at hi).2
    simp only [adrB, adrO] at h1
    rw [show bs.getD i 0 = bs[i] by simp [List.getD, List.getElem?_eq_getElem hi]]
    rw [cell?_cellAt]
    exact h1
theorem slB_is {e sz n c k : Nat} {a : Option Addr} {cs : List Value} (h : SatL H (slA e sz a n c cs :: F)) : slB a k c sz = none ∨ ∃ b o, slB a k c sz = some ⟨b, o, none⟩ := by
  have h2 : a = none ∨ ∃ b o, a = some ⟨b, o, none⟩ := by
    rcases (slA_open (F := star F) h).2 with ⟨h2, _⟩ | ⟨b, pre, post, e', fr, h2, _⟩
    · exact .inl h2
    · exact .inr ⟨_, _, h2⟩
  unfold slB
  split
  · exact h2
  · rcases h2 with rfl | ⟨b, o, rfl⟩
    · exact .inl rfl
    · right
      rw [Option.map_some, Addr_add]
      exact ⟨_, _, rfl⟩

theorem Text_spec {b : Nat} {s : RS} {most : Int} (h : SatL H (crdA b s :: F)) (hb : isBytes s.bs) (hl : s.bs.length ≤ 1099511627776) (hm : wf64 most)
    (k : ∀ H', SatL H' (crdA b (tRes most s).2 :: F) → K (.string (strB (tRes most s).1)) H') :
    CallF Tryz.prog 60 #[.pointer (some ⟨b, 0, none⟩), .int .i64 most] H K := by
  obtain ⟨e, bs⟩ := s
  dsimp only at hb hl
  obtain ⟨a, c, h⟩ := crdA_iff.1 h
  dsimp only at h
  have hr := h.sl_rd 1 rfl
  have hn := h.sl_nc 1 rfl
  refine code_Reader_Text.call ?_
  unfold code_Reader_Text.code
  have hq := count_spec (c := c) hr hb hl hm
  have fin : ∀ (r r1 err e' : Int), tRes most ⟨e, bs⟩ = ([], ⟨e', bs⟩) → (∀ K' : Value → Heap → Prop, (∀ H', SatL H' (cellsA b [.slice a bs.length c, .int .i64 e'] 132 :: slA 5 1 a bs.length c (bs.map U8) :: F) → K' (.bool false) H') → CallF Tryz.prog 74 #[.pointer (some ⟨b, 0, none⟩), .int .i64 (IntKind.i64.wrap (r1 + r)), .int .i64 err] H K') →
      code_Reader_Text.r1 b 0 K r r1 err H := by
    intro r r1 err e' he hk
    unfold code_Reader_Text.r1
    rw [he] at k
    refine ⟨_, _, _, h.rd 0 rfl _, ?_⟩
    exact hk _ fun H' h' => ⟨_, rfl, fun _ => k _ (crdA_iff.2 ⟨_, _, h'⟩), fun hf => by cases hf⟩
  by_cases he : e = 0
  · subst he
    cases hu : rdU 0 0 bs with
    | ok u n =>
      obtain ⟨h1, h2, h3⟩ := rdU_size hb hu
      rw [hu] at hq
      unfold cntV at hq
      dsimp only at hq
      by_cases hm1 : max most 0 < (u : Int)
      · rw [if_pos hm1] at hq
        refine ⟨_, _, _, h.rd 0 rfl _, _, _, _, hq, fun _ => trivial, _, _, _, fun _ => h.rd 0 rfl _, fun Jn hJ => ⟨fun hf => by simp at hf, fun _ => hJ _ _ ?_⟩⟩
        exact fin _ _ _ 17 (by unfold tRes; simp [hu, hm1]) fun K' k' => take_new h (by decide) k'
      · rw [if_neg hm1] at hq
        unfold wf64 at hm
        have hu2 : (u : Int) ≤ 9223372036854775807 := by omega
        have e1 : IntKind.i64.wrap (((bs.length : Nat) : Int) - (n : Int)) = ((bs.length - n : Nat) : Int) := by rw [w64 (by omega) (by omega)]; omega
        refine ⟨_, _, _, h.rd 0 rfl _, _, _, _, hq, fun _ => trivial, _, _, _, fun _ => h.rd 0 rfl _, fun Jn hJ => ⟨fun hc => hJ _ _ ?_, fun hc => hJ _ _ ?_⟩⟩
        · rw [e1] at hc
          have hlt : bs.length < n + u := by simp at hc; omega
          exact fin _ _ _ 15 (by unfold tRes; simp [hu, hm1, hlt]) fun K' k' => take_new h (by decide) k'
        · rw [e1] at hc
          have hge : ¬ bs.length < n + u := by simp at hc; omega
          have et : tRes most ⟨0, bs⟩ = ((bs.drop n).take u, ⟨0, bs.drop (n + u)⟩) := by unfold tRes; simp [hu, hm1, hge]
          rw [et] at k
          unfold code_Reader_Text.r1
          have e2 : IntKind.i64.wrap ((n : Int) + (u : Int)) = ((n + u : Nat) : Int) := by rw [w64 (by omega) (by omega)]; omega
          refine ⟨_, _, _, h.rd 0 rfl _, ?_⟩
          rw [e2]
          refine take_ok h (by omega) hn fun H' h' => ⟨_, rfl, (fun hf => by cases hf), fun _ => ⟨⟨by omega, by omega, by omega⟩, strB ((bs.drop n).take u), ?_, k _ ?_⟩⟩
          · rw [Int.toNat_natCast, Int.toNat_natCast, Nat.add_sub_cancel_left]
            have h5 := h'.tl.sl_rd 0 rfl
            have h6 := (h5.subB (k := n) (c := c) (by simpa using hn)).take u
            rw [← List.map_drop, ← List.map_take] at h6
            have h7 := str_read (c := c - n) (slB_is h'.tl) h6
            rw [List.length_take, List.length_drop, Nat.min_eq_left (by omega)] at h7
            exact h7
          · have h4 := h'.sl_drop 1 rfl (n + u) (by omega)
            rw [Nat.mul_one, ← List.map_drop] at h4
            refine crdA_iff.2 ⟨slB a (n + u) c 1, c - (n + u), ?_⟩
            dsimp only
            rw [List.length_drop]
            exact h4
    | form =>
      rw [hu] at hq
      refine ⟨_, _, _, h.rd 0 rfl _, _, _, _, hq, fun _ => trivial, _, _, _, fun _ => h.rd 0 rfl _, fun Jn hJ => ⟨fun hf => by simp at hf, fun _ => hJ _ _ ?_⟩⟩
      exact fin _ _ _ 10 (by unfold tRes; simp [hu]) fun K' k' => take_new h (by decide) k'
    | ended =>
      rw [hu] at hq
      refine ⟨_, _, _, h.rd 0 rfl _, _, _, _, hq, fun _ => trivial, _, _, _, fun _ => h.rd 0 rfl _, fun Jn hJ => ⟨fun hf => by simp at hf, fun _ => hJ _ _ ?_⟩⟩
      exact fin _ _ _ 15 (by unfold tRes; simp [hu]) fun K' k' => take_new h (by decide) k'
  · have hv : ∃ r r1 r2 : Int, cntV most (rdU 0 0 bs) = .tuple #[.int .i64 r, .int .i64 r1, .int .i64 r2] := by
      unfold cntV
      split
      · split <;> exact ⟨_, _, _, rfl⟩
      · exact ⟨_, _, _, rfl⟩
      · exact ⟨_, _, _, rfl⟩
    obtain ⟨r, r1, r2, hv⟩ := hv
    rw [hv] at hq
    have fin2 : ∀ err, code_Reader_Text.r1 b 0 K r r1 err H := fun err => fin r r1 err e (by unfold tRes; simp [he]) fun K' k' => take_err h he (k' _ h)
    exact ⟨_, _, _, h.rd 0 rfl _, _, _, _, hq, fun _ => trivial, _, _, _, fun _ => h.rd 0 rfl _, fun Jn hJ => ⟨fun hc => hJ _ _ (fin2 _), fun _ => hJ _ _ (fin2 _)⟩⟩

/-! ### the document's reader -/
theorem RdUint_spec {b c : Nat} {a : Option Addr} {bs : List Int} (h : SatL H (cellsA b [.slice a bs.length c, .int .i64 0] 163 :: F)) (hF : ∀ H, SatL H F → rdS H a (bs.map U8)) (hb : isBytes bs) (hl : bs.length ≤ 1099511627776) (hc : bs.length ≤ c)
    (k1 : ∀ u n H', rdU 0 0 bs = .ok u n → SatL H' (cellsA b [.slice (slB a n c 1) (bs.length - n) (c - n), .int .i64 0] 163 :: F) → K (.int .u64 u) H')
    (k2 : ∀ e H', (∀ u n, rdU 0 0 bs ≠ .ok u n) → e ≠ 0 → SatL H' (cellsA b [.slice a bs.length c, .int .i64 e] 163 :: F) → K (.int .u64 0) H') :
    CallF Tryz.prog 97 #[.pointer (some ⟨b, 0, none⟩)] H K := by
  refine R06_Reader_Uint.call ?_
  unfold R06_Reader_Uint.code
  refine ⟨_, h.rd 0 rfl _, (fun hf => by cases hf), fun _ => ?_⟩
  refine ⟨fun u i H' => ∃ k acc : Nat, i = k ∧ u = acc ∧ k ≤ 9 ∧ k ≤ bs.length ∧ acc < 2 ^ (7 * k) ∧ rdU acc k (bs.drop k) = rdU 0 0 bs ∧ SatL H' (cellsA b [.slice a bs.length c, .int .i64 0] 163 :: F), fun _ i _ => 10 - i.toNat,
    ⟨0, 0, rfl, rfl, by decide, Nat.zero_le _, by decide, rfl, h⟩, ?_⟩
  rintro u i H' ⟨k, acc, rfl, rfl, h9, hk, hacc, he, h⟩
  unfold R06_Reader_Uint.l1
  refine ⟨fun _ => ?_, fun hf => by simp at hf; omega⟩
  have e7 : IntKind.i64.wrap (7 * (k : Int)) = ((7 * k : Nat) : Int) := by rw [w64 (by omega) (by omega)]; omega
  have e7' : IntKind.u64.wrap ((7 * k : Nat) : Int) = ((7 * k : Nat) : Int) := u64w (by omega) (by omega)
  have ek : IntKind.i64.wrap ((k : Int) + 1) = ((k + 1 : Nat) : Int) := w64 (by omega) (by omega)
  refine ⟨_, _, _, h.rd 0 rfl _, fun hx => ?_, fun hx => ?_⟩
  · have hge : bs.length ≤ k := by simp at hx; omega
    refine h.st 0 rfl rfl fun H2 h => k2 15 _ ?_ (by decide) h
    rcases rstep hb k acc with ⟨_, e⟩ | ⟨h, _⟩ | ⟨h, _⟩
    · rw [← he, e]
      intro u n hf
      cases hf
    · omega
    · omega
  · have hlt : k < bs.length := by simp at hx; omega
    have h1 := (hF _ h.tl).at hlt
    refine ⟨_, _, _, h.rd 0 rfl _, ⟨by omega, by omega⟩, _, _, h1.1, _, h1.2, ?_⟩
    rcases rstep hb k acc with ⟨h, _⟩ | ⟨hk1, x, hx, h0, h1', hf, e1, e2⟩ | ⟨hk1, x, hx, hf, e⟩
    · omega
    · rw [hx]
      have hp := part64 (c := x) (i := k) h0 h1' h9 (fun e9 => by
        rcases Int.lt_or_le 1 x with h2 | h2
        · exact absurd (Or.inr ⟨h2, e9⟩) hf
        · exact h2)
      have hp1 : IntKind.u64.wrap (IntKind.u64.wrap (Int.tmod x 128) * 2 ^ (min (7 * k) IntKind.u64.bits)) = ((x.toNat % 128 * 2 ^ (7 * k) : Nat) : Int) := hp.1
      have hs : IntKind.u64.wrap ((acc : Int) + ((x.toNat % 128 * 2 ^ (7 * k) : Nat) : Int)) = ((acc + x.toNat % 128 * 2 ^ (7 * k) : Nat) : Int) := by
        rw [u64w (by omega) (by omega)]; omega
      refine ⟨fun hb1 => ?_, fun _ => ⟨by decide, by rw [e7, e7']; omega, fun hb2 => ?_, fun hb2 => ?_⟩⟩
      · exfalso
        apply hf
        simp only [Bool.or_eq_true, Bool.and_eq_true, decide_eq_true_eq] at hb1
        omega
      · rw [e7, e7', ek, Int.toNat_natCast, Int.toNat_natCast, hp1, hs]
        refine ⟨_, _, _, h.rd 0 rfl _, ⟨by omega, by omega, by omega⟩, ?_⟩
        have hr := e1 (by simpa using hb2)
        rw [he] at hr
        exact h.st 0 rfl rfl fun H2 h => k1 _ _ _ hr h
      · have hge : ¬ x < 128 := by simpa using hb2
        rw [e7, e7', ek, Int.toNat_natCast, hp1, hs]
        have k9 : k ≠ 9 := fun e9 => hf (Or.inr ⟨by omega, e9⟩)
        refine ⟨⟨k + 1, _, rfl, rfl, by omega, by omega, ?_, ?_, h⟩, by dsimp only; omega⟩
        · calc acc + x.toNat % 128 * 2 ^ (7 * k) < 2 ^ (7 * k) + x.toNat % 128 * 2 ^ (7 * k) := by omega
            _ = (x.toNat % 128 + 1) * 2 ^ (7 * k) := by rw [Nat.add_mul, Nat.one_mul, Nat.add_comm]
            _ ≤ 128 * 2 ^ (7 * k) := Nat.mul_le_mul_right _ (by omega)
            _ = 2 ^ (7 * (k + 1)) := by rw [show 7 * (k + 1) = 7 + 7 * k by omega, Nat.pow_add]
        · rw [← he, e2 hge]
    · rw [hx]
      refine ⟨fun _ => ?_, fun hb1 => ?_⟩
      · refine h.st 0 rfl rfl fun H2 h => k2 10 _ ?_ (by decide) h
        rw [← he, e]
        intro u n hf
        cases hf
      · exfalso
        simp only [Bool.or_eq_false_iff, Bool.and_eq_false_iff, decide_eq_false_iff_not] at hb1
        omega
theorem RNew_spec {c n : Nat} {a : Option Addr} (h : SatL H F) (k : ∀ b H', SatL H' (cellsA b [.slice a n c, .int .i64 0] 163 :: F) → K (.pointer (some ⟨b, 0, none⟩)) H') : CallF Tryz.prog 96 #[.slice a n c] H K := by
  refine R06_New.call ?_
  unfold R06_New.code
  exact h.al fun b H' h => k _ _ h
end
end Go.Proofs.YtomdcdfcdeaabaaGreat
namespace Go.Nm
open Go
def le4 (s : Int) : List Int := [s % 256, s / 256 % 256, s / 65536 % 256, s / 16777216 % 256]
def sealB (bs : List Int) : List Int := bs ++ le4 (crcS bs)
def openM (bs : List Int) : Int × List Int :=
  if bs.length < 4 then (15, []) else if sealB (bs.take (bs.length - 4)) = bs then (0, bs.take (bs.length - 4)) else (14, [])
theorem le4_bytes (s : Int) : isBytes (le4 s) := by
  intro x hx
  simp only [le4, List.mem_cons, List.not_mem_nil, or_false] at hx
  rcases hx with rfl | rfl | rfl | rfl <;> omega
theorem isBytes_append {a b : List Int} (ha : isBytes a) (hb : isBytes b) : isBytes (a ++ b) := fun x hx => (List.mem_append.1 hx).elim (ha x) (hb x)
theorem isBytes_take {a : List Int} (n : Nat) (ha : isBytes a) : isBytes (a.take n) := fun x hx => ha x (List.mem_of_mem_take hx)
theorem isBytes_drop {a : List Int} (n : Nat) (ha : isBytes a) : isBytes (a.drop n) := fun x hx => ha x (List.mem_of_mem_drop hx)
theorem sealB_bytes {bs : List Int} (h : isBytes bs) : isBytes (sealB bs) := isBytes_append h (le4_bytes _)
theorem sealB_len (bs : List Int) : (sealB bs).length = bs.length + 4 := by simp [sealB, le4]
theorem openM_seal (bs : List Int) : openM (sealB bs) = (0, bs) := by
  unfold openM
  rw [sealB_len, if_neg (by omega), Nat.add_sub_cancel]
  have : (sealB bs).take bs.length = bs := by unfold sealB; rw [List.take_left]
  rw [this, if_pos rfl]
theorem openM_ok {bs p : List Int} (h : openM bs = (0, p)) : bs = sealB p := by
  unfold openM at h
  split at h
  · cases h
  · split at h
    · rename_i h1
      cases h
      exact h1.symm
    · cases h
theorem le4_val {s : Int} (h0 : 0 ≤ s) (h1 : s < 4294967296) {a b c d : Int} (ha : 0 ≤ a ∧ a < 256) (hb : 0 ≤ b ∧ b < 256) (hc : 0 ≤ c ∧ c < 256) (hd : 0 ≤ d ∧ d < 256) :
    le4 s = [a, b, c, d] ↔ a + 256 * b + 65536 * c + 16777216 * d = s := by
  unfold le4
  constructor
  · intro h
    simp only [List.cons.injEq, and_true] at h
    omega
  · intro h
    simp only [List.cons.injEq, and_true]
    omega
theorem or32_add {a m p : Nat} (ha : a < 2 ^ p) (h : a + m * 2 ^ p < 4294967296) : bitsV .or .u32 (a : Int) ((m * 2 ^ p : Nat) : Int) = ((a + m * 2 ^ p : Nat) : Int) := by
  have h1 : a < 4294967296 := by omega
  have h2 : m * 2 ^ p < 4294967296 := by omega
  have e3 : a ||| m * 2 ^ p = a + m * 2 ^ p := by
    rw [Nat.mul_comm m, Nat.or_comm, ← Nat.two_pow_add_eq_or_of_lt ha, Nat.add_comm]
  show IntKind.u32.wrap ((BitVec.ofInt IntKind.u32.bits (a : Int) ||| BitVec.ofInt IntKind.u32.bits ((m * 2 ^ p : Nat) : Int)).toNat : Int) = _
  rw [BitVec.toNat_or, u32_of h1, u32_of h2, e3, u32w (by omega) (by omega)]
theorem sum_code {a b c d : Int} (ha : 0 ≤ a ∧ a < 256) (hb : 0 ≤ b ∧ b < 256) (hc : 0 ≤ c ∧ c < 256) (hd : 0 ≤ d ∧ d < 256) :
    bitsV .or .u32 (bitsV .or .u32 (bitsV .or .u32 (IntKind.u32.wrap a) (IntKind.u32.wrap ((IntKind.u32.wrap b) * 2 ^ (min (Int.toNat 8) (IntKind.u32.bits))))) (IntKind.u32.wrap ((IntKind.u32.wrap c) * 2 ^ (min (Int.toNat 16) (IntKind.u32.bits))))) (IntKind.u32.wrap ((IntKind.u32.wrap d) * 2 ^ (min (Int.toNat 24) (IntKind.u32.bits))))
      = a + 256 * b + 65536 * c + 16777216 * d := by
  rw [u32w (x := a) (by omega) (by omega), u32w (x := b) (by omega) (by omega), u32w (x := c) (by omega) (by omega), u32w (x := d) (by omega) (by omega)]
  show bitsV .or .u32 (bitsV .or .u32 (bitsV .or .u32 a (IntKind.u32.wrap (b * 256))) (IntKind.u32.wrap (c * 65536))) (IntKind.u32.wrap (d * 16777216)) = _
  rw [u32w (x := b * 256) (by omega) (by omega), u32w (x := c * 65536) (by omega) (by omega), u32w (x := d * 16777216) (by omega) (by omega)]
  obtain ⟨a', rfl⟩ := Int.eq_ofNat_of_zero_le ha.1
  obtain ⟨b', rfl⟩ := Int.eq_ofNat_of_zero_le hb.1
  obtain ⟨c', rfl⟩ := Int.eq_ofNat_of_zero_le hc.1
  obtain ⟨d', rfl⟩ := Int.eq_ofNat_of_zero_le hd.1
  have e1 := or32_add (a := a') (m := b') (p := 8) (by omega) (by omega)
  have e2 := or32_add (a := a' + b' * 2 ^ 8) (m := c') (p := 16) (by omega) (by omega)
  have e3 := or32_add (a := a' + b' * 2 ^ 8 + c' * 2 ^ 16) (m := d') (p := 24) (by omega) (by omega)
  rw [show (2 : Nat) ^ 8 = 256 by decide] at e1 e2 e3
  rw [show (2 : Nat) ^ 16 = 65536 by decide] at e2 e3
  rw [show (2 : Nat) ^ 24 = 16777216 by decide] at e3
  have f1 : ((b' * 256 : Nat) : Int) = (b' : Int) * 256 := Int.natCast_mul ..
  have f2 : ((c' * 65536 : Nat) : Int) = (c' : Int) * 65536 := Int.natCast_mul ..
  have f3 : ((d' * 16777216 : Nat) : Int) = (d' : Int) * 16777216 := Int.natCast_mul ..
  rw [f1] at e1
  rw [f2] at e2
  rw [f3] at e3
  rw [e1, e2, e3]
  omega
theorem last4 {bs : List Int} (h : ¬ bs.length < 4) : ∃ a b c d, bs = bs.take (bs.length - 4) ++ [a, b, c, d] ∧ bs.drop (bs.length - 4) = [a, b, c, d] := by
  have hl : (bs.drop (bs.length - 4)).length = 4 := by rw [List.length_drop]; omega
  obtain ⟨a, b, c, d, e⟩ : ∃ a b c d, bs.drop (bs.length - 4) = [a, b, c, d] := by
    match hx : bs.drop (bs.length - 4), hl with
    | [a, b, c, d], _ => exact ⟨a, b, c, d, rfl⟩
  exact ⟨a, b, c, d, by rw [← e, List.take_append_drop], e⟩
theorem u8_bytes {xs : List Int} (h : isBytes xs) (i : Nat) (hi : i < xs.length) : ((UInt8.ofNat (xs[i]).toNat).toNat : Int) = xs[i] := by
  have := h _ (List.getElem_mem hi)
  rw [UInt8.toNat_ofNat']
  omega
end Go.Nm
namespace Go.Proofs.YtomdcdfcdeaabaaGreat
open Go Go.Nm Go.Proofs
section
variable {F L : List Assn} {H : Heap} {K : Value → Heap → Prop}

theorem le4_code {s : Int} (h0 : 0 ≤ s) (h1 : s < 4294967296) :
    [U8 (IntKind.u8.wrap s), U8 (IntKind.u8.wrap (Int.fdiv s (2 ^ (min (Int.toNat 8) (IntKind.u32.bits))))), U8 (IntKind.u8.wrap (Int.fdiv s (2 ^ (min (Int.toNat 16) (IntKind.u32.bits))))), U8 (IntKind.u8.wrap (Int.fdiv s (2 ^ (min (Int.toNat 24) (IntKind.u32.bits)))))] = (le4 s).map U8 := by
  obtain ⟨n, rfl⟩ := Int.eq_ofNat_of_zero_le h0
  show [U8 (IntKind.u8.wrap (n : Int)), U8 (IntKind.u8.wrap (Int.fdiv (n : Int) 256)), U8 (IntKind.u8.wrap (Int.fdiv (n : Int) 65536)), U8 (IntKind.u8.wrap (Int.fdiv (n : Int) 16777216))] = _
  rw [Int.fdiv_eq_ediv_of_nonneg _ (by decide), Int.fdiv_eq_ediv_of_nonneg _ (by decide), Int.fdiv_eq_ediv_of_nonneg _ (by decide)]
  rw [show (n : Int) / 256 = ((n / 256 : Nat) : Int) by omega, show (n : Int) / 65536 = ((n / 65536 : Nat) : Int) by omega, show (n : Int) / 16777216 = ((n / 16777216 : Nat) : Int) by omega]
  rw [u8_of, u8_of, u8_of, u8_of]
  unfold le4
  simp only [List.map_cons, List.map_nil, List.cons.injEq, Value.int.injEq, true_and, and_true]
  omega
theorem le4_ref {s : Int} (h0 : 0 ≤ s) (h1 : s < 4294967296) :
    [U8 (IntKind.u8.wrap s), U8 (IntKind.u8.wrap (IntKind.u32.wrap (Int.tdiv s 256))), U8 (IntKind.u8.wrap (IntKind.u32.wrap (Int.tdiv s 65536))), U8 (IntKind.u8.wrap (IntKind.u32.wrap (Int.tdiv s 16777216)))] = (le4 s).map U8 := by
  obtain ⟨n, rfl⟩ := Int.eq_ofNat_of_zero_le h0
  rw [Int.tdiv_eq_ediv_of_nonneg (by omega), Int.tdiv_eq_ediv_of_nonneg (by omega), Int.tdiv_eq_ediv_of_nonneg (by omega)]
  rw [u32w (x := (n : Int) / 256) (by omega) (by omega), u32w (x := (n : Int) / 65536) (by omega) (by omega), u32w (x := (n : Int) / 16777216) (by omega) (by omega)]
  rw [show (n : Int) / 256 = ((n / 256 : Nat) : Int) by omega, show (n : Int) / 65536 = ((n / 65536 : Nat) : Int) by omega, show (n : Int) / 16777216 = ((n / 16777216 : Nat) : Int) by omega]
  rw [u8_of, u8_of, u8_of, u8_of]
  unfold le4
  simp only [List.map_cons, List.map_nil, List.cons.injEq, Value.int.injEq, true_and, and_true]
  omega

theorem R07Seal_spec {a : Option Addr} {c : Nat} {bs : List Int} (h : SatL H F) (hF : ∀ H, SatL H F → rdS H a (bs.map U8)) (hl : bs.length ≤ 1099511627776)
    (k : ∀ a' c' H', SatL H' (slA 5 1 a' (sealB bs).length c' ((sealB bs).map U8) :: F) → K (.slice a' (sealB bs).length c') H') :
    CallF Tryz.prog 79 #[.slice a bs.length c] H K := by
  refine R07_Seal.call ?_
  unfold R07_Seal.code
  have hq := R07Sum_spec (c := c) (hF H h) hl
  refine ⟨_, hq, ?_⟩
  obtain ⟨s0, s1⟩ := crcS_in bs
  refine h.al fun b H1 h => ?_
  have h1 := SatL.sl_pt (cs := []) h 1 0 rfl
  refine SatL.append (m := bs.length) (ws := bs.map U8) sl32 h1 0 rfl (hF _ h.tl) (by simp) (plain_map (fun _ => rfl) _) (by omega) (by omega) fun a2 c2 H2 h2 => ⟨_, _, _, rfl, by decide, by decide, by decide, ?_⟩
  have h3 : SatL H2 (slA 5 1 a2 (0 + bs.length) c2 ([] ++ bs.map U8) :: F) := h2
  rw [Nat.zero_add, List.nil_append] at h3
  rw [Nat.zero_add]
  have hc4 := le4_ref s0 s1
  refine h3.al fun b1 H3 h => ?_
  refine SatL.append (m := 4) (ws := (le4 (crcS bs)).map U8) sl32 h 1 rfl (h.ce_rd 0 (by rw [← hc4]; rfl)) (by simp [le4]) (plain_map (fun _ => rfl) _) (by omega) (by omega) fun a3 c3 H4 h4 => ⟨_, _, _, rfl, ?_⟩
  have := k a3 c3 H4
  unfold sealB at this
  rw [List.length_append, show (le4 (crcS bs)).length = 4 from rfl] at this
  refine this ?_
  rw [List.map_append]
  exact h4.tl

theorem sl_same {H : Heap} {a : Option Addr} {cs : List Value} {c : Nat} (h : rdS H a cs) (h0 : cs ≠ []) : slB a 0 c 1 = a := by
  cases cs with
  | nil => exact absurd rfl h0
  | cons v r => exact slB0 (h 0 v rfl).1

theorem R07Open_spec {a : Option Addr} {c : Nat} {bs : List Int} (h : SatL H F) (hF : ∀ H, SatL H F → rdS H a (bs.map U8)) (hl : bs.length ≤ 1099511627776) (hc : bs.length ≤ c)
    (k1 : ∀ a' c' p H', openM bs = (0, p) → SatL H' (slA 5 1 a' p.length c' (p.map U8) :: F) → K (.tuple #[.slice a' p.length c', .int .i64 0]) H')
    (k2 : ∀ e H', e ≠ 0 → openM bs = (e, []) → SatL H' F → K (.tuple #[.slice none 0 0, .int .i64 e]) H') :
    CallF Tryz.prog 98 #[.slice a bs.length c] H K := by
  refine R07_Open.call ?_
  unfold R07_Open.code
  have en : IntKind.i64.wrap ((bs.length : Int) - 4) = (bs.length : Int) - 4 := w64 (by omega) (by omega)
  rw [en]
  refine ⟨fun hx => ?_, fun hx => ?_⟩
  · have hlt : bs.length < 4 := by simp at hx; omega
    exact k2 15 _ (by decide) (by unfold openM; rw [if_pos hlt]) h
  · have hge : ¬ bs.length < 4 := by simp at hx; omega
    have e4 : (bs.length : Int) - 4 = ((bs.length - 4 : Nat) : Int) := by omega
    rw [e4, Int.toNat_natCast]
    have hsame : slB a 0 c 1 = a := sl_same (hF _ h) (by intro hx; have := congrArg List.length hx; simp at this; subst this; simp at hge)
    rw [hsame]
    obtain ⟨p, hp⟩ : ∃ p, bs.take (bs.length - 4) = p := ⟨_, rfl⟩
    have hpl : p.length = bs.length - 4 := by rw [← hp, List.length_take]; omega
    refine ⟨⟨by omega, by omega, by omega⟩, ?_⟩
    rw [← hpl]
    refine R07Seal_spec (bs := p) h (fun H h => by have := (hF H h).take (bs.length - 4); rwa [← List.map_take, hp] at this) (by omega) fun a1 c1 H1 h1 => ⟨_, _, _, rfl, ?_⟩
    have hsl := sealB_len p
    have hnc := h1.sl_nc 0 rfl
    have hob : openM bs = if sealB p = bs then (0, p) else (14, []) := by unfold openM; rw [if_neg hge, hp]
    have hpre : (sealB p).take p.length = bs.take p.length := by
      unfold sealB; rw [List.take_left, hpl, hp]
    refine ⟨fun i H' => H' = H1 ∧ ∃ j : Nat, i = j ∧ p.length ≤ j ∧ j ≤ bs.length ∧ (sealB p).take j = bs.take j, fun i _ => bs.length - i.toNat, ⟨rfl, p.length, rfl, Nat.le_refl _, by omega, hpre⟩, ?_⟩
    rintro i H' ⟨rfl, j, rfl, hj1, hj2, hj3⟩
    unfold R07_Open.l1
    have ew : IntKind.i64.wrap ((IntKind.i64.wrap ((bs.length : Int) - 4)) + 4) = bs.length := by
      rw [en, Int.sub_add_cancel]
      exact w64 (by omega) (by omega)
    rw [ew, en, e4, Int.toNat_natCast]
    refine ⟨fun hx => ?_, fun hx => ?_⟩
    · have hlt : j < bs.length := by simpa using hx
      have hs2 : j < (sealB p).length := by omega
      have r1 := (h1.sl_rd 0 rfl).at hs2
      have r2 := (hF _ h1.tl).at hlt
      refine ⟨⟨by omega, by omega⟩, _, _, r1.1, _, r1.2, ⟨by omega, by omega⟩, _, _, r2.1, _, r2.2, fun hd => ?_, fun hd => ?_⟩
      · have hne : (sealB p)[j] ≠ bs[j] := by simpa using hd
        refine k2 14 _ (by decide) ?_ h1.tl
        rw [hob, if_neg]
        intro e
        apply hne
        simp [e]
      · have heq : (sealB p)[j] = bs[j] := by simpa using hd
        rw [w64 (x := (j : Int) + 1) (by omega) (by omega)]
        refine ⟨⟨rfl, j + 1, rfl, by omega, hlt, ?_⟩, by dsimp only; omega⟩
        rw [List.take_succ_eq_append_getElem hs2, List.take_succ_eq_append_getElem hlt, hj3, heq]
    · have hj : j = bs.length := by simp at hx; omega
      subst hj
      have heq : sealB p = bs := by
        rw [List.take_length] at hj3
        rw [← hj3, List.take_of_length_le (by omega)]
      rw [← hpl]
      refine ⟨⟨by omega, by omega, by omega⟩, ?_⟩
      have hs1 : slB a1 0 c1 1 = a1 := sl_same (h1.sl_rd 0 rfl) (by intro hx; have := congrArg List.length hx; rw [List.length_map, hsl] at this; simp at this)
      rw [hs1]
      refine k1 a1 c1 p _ (by rw [hob, if_pos heq]) ?_
      have h4 := h1.sl_take 0 rfl p.length (by omega)
      rw [Nat.mul_one, ← List.map_take] at h4
      have e5 : (sealB p).take p.length = p := by unfold sealB; rw [List.take_left]
      rw [e5] at h4
      exact h4

theorem crcOpen_spec {a : Option Addr} {c : Nat} {bs : List Int} (h : SatL H F) (hF : ∀ H, SatL H F → rdS H a (bs.map U8)) (hb : isBytes bs) (hl : bs.length ≤ 1099511627776) (hc : bs.length ≤ c)
    (k1 : ∀ a' c' p H', openM bs = (0, p) → SatL H' (slA 5 1 a' p.length c' (p.map U8) :: F) → K (.tuple #[.slice a' p.length c', .int .i64 0]) H')
    (k2 : ∀ e H', e ≠ 0 → openM bs = (e, []) → SatL H' F → K (.tuple #[.slice none 0 0, .int .i64 e]) H') :
    CallF Tryz.prog 75 #[.slice a bs.length c] H K := by
  refine crc_Open.call ?_
  unfold crc_Open.code
  refine ⟨fun hx => ?_, fun hx => ?_⟩
  · have hlt : bs.length < 4 := by simp at hx; omega
    exact k2 15 _ (by decide) (by unfold openM; rw [if_pos hlt]) h
  · have hge : ¬ bs.length < 4 := by simp at hx; omega
    have en : IntKind.i64.wrap ((bs.length : Int) - 4) = ((bs.length - 4 : Nat) : Int) := by rw [w64 (by omega) (by omega)]; omega
    rw [en, Int.toNat_natCast]
    have hsame : slB a 0 c 1 = a := sl_same (hF _ h) (by intro hx; have := congrArg List.length hx; simp at this; subst this; simp at hge)
    rw [hsame]
    obtain ⟨va, vb, vc, vd, e1, e2⟩ := last4 hge
    obtain ⟨p, hp⟩ : ∃ p, bs.take (bs.length - 4) = p := ⟨_, rfl⟩
    have hpl : p.length = bs.length - 4 := by rw [← hp, List.length_take]; omega
    rw [hp] at e1
    have hr := (hF _ h).subB (k := bs.length - 4) (c := c) (by simpa using hc)
    rw [← List.map_drop, e2] at hr
    have q0 := hr 0 _ rfl
    have q1 := hr 1 _ rfl
    have q2 := hr 2 _ rfl
    have q3 := hr 3 _ rfl
    refine ⟨⟨by omega, by omega, by omega⟩, ⟨by omega, by omega, by omega⟩, ⟨by omega, by omega⟩, _, _, q0.1, _, q0.2, ⟨by omega, by omega⟩, _, _, q0.1, _, q1.2, by decide, ⟨by omega, by omega⟩, _, _, q0.1, _, q2.2, by decide, ⟨by omega, by omega⟩, _, _, q0.1, _, q3.2, by decide, ?_⟩
    rw [← hpl]
    have hpb : ∀ H, SatL H F → rdS H a (p.map U8) := fun H h => by
      have := (hF H h).take (bs.length - 4)
      rwa [← List.map_take, hp] at this
    refine h.al fun b4 H1 h => ?_
    have hq := Sum_spec (c := 1) (parts := [⟨a, c, p⟩]) (h.ce_rd 0 rfl) (fun y hy => by
      rw [List.mem_singleton] at hy; subst hy; exact hpb _ h.tl) (by simp) (fun y hy => by rw [List.mem_singleton] at hy; subst hy; dsimp only; omega)
    simp only [List.flatMap_cons, List.flatMap_nil, List.append_nil] at hq
    refine ⟨_, hq, ?_⟩
    have hmem : ∀ x ∈ [va, vb, vc, vd], 0 ≤ x ∧ x < 256 := fun x hx => hb x (by rw [e1]; exact List.mem_append_right _ hx)
    have ba := hmem va (by simp)
    have bb := hmem vb (by simp)
    have bc := hmem vc (by simp)
    have bd := hmem vd (by simp)
    rw [sum_code ba bb bc bd]
    obtain ⟨s0, s1⟩ := crcS_in p
    have hv := le4_val s0 s1 ba bb bc bd
    have hob : openM bs = if sealB p = bs then (0, p) else (14, []) := by unfold openM; rw [if_neg hge, hp]
    have hiff : sealB p = bs ↔ le4 (crcS p) = [va, vb, vc, vd] := by
      unfold sealB
      constructor
      · intro e
        rw [e1] at e
        exact List.append_cancel_left e
      · intro e
        rw [e]
        exact e1.symm
    refine ⟨fun hx => ?_, fun hx => ?_⟩
    · have hne : ¬ va + 256 * vb + 65536 * vc + 16777216 * vd = crcS p := by simpa using hx
      exact k2 14 _ (by decide) (by rw [hob, if_neg]; rw [hiff, hv]; exact hne) h.tl
    · have heq : va + 256 * vb + 65536 * vc + 16777216 * vd = crcS p := by simpa using hx
      refine bClone_own h.tl hpb (by omega) fun a' c' H2 h => ⟨_, _, _, rfl, k1 _ _ _ _ ?_ h⟩
      rw [hob, if_pos]
      rw [hiff, hv]
      exact heq

theorem crcSeal_spec {b o c : Nat} {parts : List Fy} (h : SatL H F) (ha : ∀ H, SatL H F → rdS H (some ⟨b, o, none⟩) (parts.map encY)) (hp : ∀ H, SatL H F → ∀ y ∈ parts, rdS H y.a (y.bs.map U8)) (hA : ∀ y ∈ parts, y.a = none ∨ ∃ b o, y.a = some ⟨b, o, none⟩)
    (hb : ∀ y ∈ parts, isBytes y.bs) (h2 : 2 ≤ parts.length) (hc : parts.length ≤ c) (hn : parts.length ≤ 1000) (hl : (parts.flatMap Fy.bs).length ≤ 1099511627776) (hl0 : 0 < (parts.flatMap Fy.bs).length)
    (k : ∀ a' c' H', SatL H' (slA 5 1 a' (sealB (parts.flatMap Fy.bs)).length c' ((sealB (parts.flatMap Fy.bs)).map U8) :: F) → K (.slice a' (sealB (parts.flatMap Fy.bs)).length c') H') :
    CallF Tryz.prog 70 #[.slice (some ⟨b, o, none⟩) parts.length c] H K := by
  refine crc_Seal.call ?_
  unfold crc_Seal.code
  have hyl : ∀ y ∈ parts, y.bs.length ≤ 1099511627776 := fun y hy => by
    refine Nat.le_trans ?_ hl
    obtain ⟨s, t, rfl⟩ := List.append_of_mem hy
    simp only [List.flatMap_append, List.flatMap_cons, List.length_append]
    omega
  have hq := Sum_spec (c := c) (ha _ h) (hp _ h) (by omega) hyl
  refine ⟨_, hq, ?_⟩
  obtain ⟨bs, hbs⟩ : ∃ bs, parts.flatMap Fy.bs = bs := ⟨_, rfl⟩
  rw [hbs] at hl hl0 k hq ⊢
  obtain ⟨s0, s1⟩ := crcS_in bs
  have hbb : isBytes bs := by
    rw [← hbs]
    intro x hx
    obtain ⟨y, hy, hx⟩ := List.mem_flatMap.1 hx
    exact hb y hy x hx
  intro w hw
  subst hw
  have hlen : ∀ l : List Fy, Lib.lens (l.map fun y => Lib.bytesOf y.bs) = (l.flatMap Fy.bs).length := by
    intro l
    induction l with
    | nil => rfl
    | cons y r ih =>
      simp only [Lib.lens, List.map_cons, List.sum_cons, List.flatMap_cons, List.length_append] at ih ⊢
      rw [ih]
      simp [Lib.bytesOf]
  have hjoin : ∀ l : List Fy, Lib.join (l.map fun y => Lib.bytesOf y.bs) [] = Lib.bytesOf (l.flatMap Fy.bs) := by
    intro l
    have : ∀ l : List Fy, (l.map fun y => Lib.bytesOf y.bs).flatten = Lib.bytesOf (l.flatMap Fy.bs) := by
      intro l
      induction l with
      | nil => rfl
      | cons y r ih => simp only [List.map_cons, List.flatten_cons, List.flatMap_cons, ih]; simp [Lib.bytesOf]
    cases l with
    | nil => rfl
    | cons y r =>
      rw [List.map_cons, Lib.join_cons]
      unfold Lib.joinTail
      simp only [List.nil_append, List.map_id']
      rw [this r]
      simp [Lib.bytesOf]
  have hpa : Lib.PartsAt w ⟨b, o, none⟩ (parts.map encY) (parts.map fun y => Lib.bytesOf y.bs) := by
    refine ⟨by simp, fun i v hv => ?_, fun i v l hv hl' => ?_⟩
    · rw [Addr_add, cell?_cellAt]
      exact (ha _ h i v (by rw [lget_eq']; exact hv)).2
    · rw [List.getElem?_map, Option.map_eq_some_iff] at hv hl'
      obtain ⟨y, hy, rfl⟩ := hv
      obtain ⟨y', hy', rfl⟩ := hl'
      rw [hy] at hy'
      cases hy'
      have hm : y ∈ parts := List.mem_of_getElem? hy
      have hry := hp _ h y hm
      refine ⟨y.a, y.c, by simp [Lib.bytesOf], fun hno => ?_, fun a' ha' i x hx => ?_⟩
      · rw [hno] at hry
        have := rdS_none hry
        simp at this
        simp [Lib.bytesOf, this]
      · have hil : i < y.bs.length := by
          have := (List.getElem?_eq_some_iff.1 hx).1
          simpa [Lib.bytesOf] using this
        have h1 := hry.at hil
        rw [ha'] at h1
        rcases hA y hm with e | ⟨b', o', e⟩
        · rw [ha'] at e; cases e
        · rw [ha'] at e
          cases e
          rw [Addr_add, cell?_cellAt]
          simp only [adrB, adrO] at h1
          rw [h1.2]
          simp only [Lib.bytesOf, List.getElem?_map, List.getElem?_eq_getElem hil, Option.map_some, Option.some.injEq] at hx
          rw [← hx, u8_bytes (hb y hm)]
  have hs : Lib.HoldsBytes w (.slice none 0 0) [] := ⟨none, 0, rfl, fun _ => rfl, fun a ha => by cases ha⟩
  have hcall := Any.bytes_Join_many Tryz.joinA b o parts.length c (parts.map encY) (parts.map fun y => Lib.bytesOf y.bs) (.slice none 0 0) [] w (by simp) h2 hpa hc hs (by omega) (by rw [hlen, hbs]; simp; omega)
  refine fin_of_calls hcall ?_
  rintro e w' ⟨v', rfl, hfr, hbl⟩
  refine ⟨_, rfl, rest_of_below hbl, ?_⟩
  rw [hjoin, hbs] at hfr
  obtain ⟨g, cap, zs, rfl, hg1, hg2, hg3, hg4, hg5, hg6, hg7, hg8⟩ := hfr
  have hbl2 : (Lib.bytesOf bs).length = bs.length := by simp [Lib.bytesOf]
  rw [hbl2] at hg2 hg6 ⊢
  have hz : zs.take bs.length = bs := by
    have hzl : (zs.take bs.length).length = bs.length := by rw [List.length_take]; omega
    refine List.ext_getElem hzl fun i h1 h2 => ?_
    have e1 := congrArg (fun l : List UInt8 => l[i]?) hg6
    simp only [Lib.bytesOf, List.getElem?_map, List.getElem?_eq_getElem h1, List.getElem?_eq_getElem h2, Option.map_some, Option.some.injEq] at e1
    have b1 := u8_bytes (xs := zs.take bs.length) (fun x hx => hg5 x (List.mem_of_mem_take hx)) i h1
    have b2 := u8_bytes hbb i h2
    rw [← b1, ← b2, e1]
  have hC : ∃ (C : Array Value) (e' : TypeId) (fr : Nat × Nat), w'.heap[g]? = some (.cells C e' fr) := by
    have h0 := hg7 0 (by omega)
    unfold World.cell? at h0
    split at h0
    · rename_i C e' fr hh; exact ⟨C, e', fr, hh⟩
    · cases h0
  obtain ⟨C, e', fr, hC⟩ := hC
  have hcell : ∀ i, i < cap → C.toList[i]? = some (U8 (zs.getD i 0)) := fun i hi => by
    have h0 := hg7 i hi
    rw [cell?_cellAt] at h0
    unfold cellAt at h0
    rw [hC] at h0
    simpa using h0
  have hCl : cap ≤ C.toList.length := by
    rcases Nat.eq_zero_or_pos cap with h0 | h0
    · omega
    · have := (List.getElem?_eq_some_iff.1 (hcell (cap - 1) (by omega))).1
      omega
  have hCe : C.toList = bs.map U8 ++ C.toList.drop bs.length := by
    rw [← List.take_append_drop bs.length C.toList]
    congr 1
    · refine List.ext_getElem? fun i => ?_
      rcases Nat.lt_or_ge i bs.length with hi | hi
      · rw [List.getElem?_take_of_lt hi, hcell i (by omega), List.getElem?_map, List.getElem?_eq_getElem hi, Option.map_some]
        have : zs.getD i 0 = bs[i] := by
          have h1 : i < (zs.take bs.length).length := by rw [hz]; exact hi
          have h2 : (zs.take bs.length)[i] = bs[i] := by simp only [hz]
          rw [← h2, List.getElem_take]
          have h3 : i < zs.length := by omega
          rw [List.getD, List.getElem?_eq_getElem h3]
          rfl
        rw [this]
      · rw [List.getElem?_eq_none (by rw [List.length_take]; omega), List.getElem?_eq_none (by simpa using hi)]
    · rw [List.take_append_drop]
  have hnew : SatL w'.heap (slA 5 1 (some ⟨g, 0, none⟩) bs.length cap (bs.map U8) :: F) := by
    refine (h.new (grow_of_below hbl) hg1 hC).mono fun p hp => ⟨by simp, .inr ⟨g, [], C.toList.drop bs.length, e', fr, rfl, hg2, by rw [List.length_drop]; omega, fun _ i h1 h2 hh => ?_, ?_⟩⟩
    · have := hg8 i (by simp at h2; omega)
      unfold World.frozen? at this
      rw [hC] at this
      simp only [Bool.and_eq_false_iff, decide_eq_false_iff_not] at this
      omega
    · rw [List.nil_append, ← hCe]
      exact hp
  refine ⟨_, _, _, rfl, by decide, by decide, by decide, ?_⟩
  have hc4 := le4_code s0 s1
  refine hnew.al fun b1 H3 h => ?_
  refine SatL.append (m := 4) (ws := (le4 (crcS bs)).map U8) sl32 h 1 rfl (h.ce_rd 0 (by rw [← hc4]; rfl)) (by simp [le4]) (plain_map (fun _ => rfl) _) (by omega) (by omega) fun a3 c3 H4 h4 => ⟨_, _, _, rfl, ?_⟩
  have := k a3 c3 H4
  unfold sealB at this
  rw [List.length_append, show (le4 (crcS bs)).length = 4 from rfl] at this
  refine this ?_
  rw [List.map_append]
  exact h4.tl
end
end Go.Proofs.YtomdcdfcdeaabaaGreat
namespace Go.Nm
open Go
structure Rc where
  kind : Int
  data : List Int
  deriving DecidableEq
def bodyB (r : Rc) : List Int := sealB (uintB r.kind.toNat ++ r.data)
def recB (r : Rc) : List Int := uintB (bodyB r).length ++ bodyB r
structure Rc.ok (r : Rc) : Prop where
  k0 : 0 ≤ r.kind
  k1 : r.kind ≤ 255
  len : r.data.length ≤ 262144
  by' : isBytes r.data
def recM (b : List Int) : Option Rc := if (openM b).1 ≠ 0 then none else match rdU 0 0 (openM b).2 with
  | .ok kind j => if 255 < kind ∨ 262144 < (openM b).2.length - j then none else some ⟨kind, (openM b).2.drop j⟩
  | _ => none
def oneM (b : List Int) : Option (Rc × Nat) := match rdU 0 0 b with
  | .ok n k => if b.length < k + n then none else (recM ((b.drop k).take n)).map fun r => (r, k + n)
  | _ => none
def scanF : Nat → List Int → List Rc × Nat
  | 0, _ => ([], 0)
  | f + 1, b => match oneM b with
    | none => ([], 0)
    | some (r, n) => (r :: (scanF f (b.drop n)).1, n + (scanF f (b.drop n)).2)
def scanM (b : List Int) : List Rc × Nat := scanF b.length b

theorem openM_sub {b : List Int} (hb : isBytes b) : isBytes (openM b).2 := by
  unfold openM
  split
  · intro x hx; cases hx
  · split
    · exact isBytes_take _ hb
    · intro x hx; cases hx
theorem uintB_len2 {u : Nat} (h : u ≤ 255) : (uintB u).length ≤ 2 := by
  by_cases h1 : u < 128
  · rw [uintB_lt h1]; simp
  · rw [uintB_ge h1, uintB_lt (by omega)]; simp
theorem recM_ok {b : List Int} {r : Rc} (hb : isBytes b) (h : recM b = some r) : b = bodyB r ∧ r.ok := by
  unfold recM at h
  split at h
  · cases h
  · rename_i h0
    have hp := openM_sub hb
    have h0 : (openM b).1 = 0 := Classical.not_not.1 h0
    obtain ⟨p, he⟩ : ∃ p, openM b = (0, p) := ⟨(openM b).2, by rw [← h0]⟩
    rw [he] at hp h
    dsimp only at hp h
    have hbs := openM_ok he
    split at h
    · rename_i kind j hr
      split at h
      · cases h
      · rename_i hn
        cases h
        obtain ⟨w, h1, h2, h3, h4, _, _, _⟩ := rdU_canon hp hr (by omega)
        simp only [Nat.mul_zero, Nat.pow_zero, Nat.mul_one, Nat.zero_add] at h1
        subst h1
        rw [Nat.sub_zero] at h4
        refine ⟨?_, ⟨by dsimp only; omega, by dsimp only; omega, by simp only [List.length_drop]; omega, isBytes_drop _ hp⟩⟩
        unfold bodyB
        dsimp only
        rw [Int.toNat_natCast, h4, List.take_append_drop]
        exact hbs
    · cases h
theorem recM_body {r : Rc} (h : r.ok) : recM (bodyB r) = some r := by
  have h0 := h.k0
  have h1 := h.k1
  have h2 := h.len
  unfold recM bodyB
  rw [openM_seal, if_neg (by simp)]
  dsimp only
  rw [rdU_uintB r.data (by omega) (by omega) (fun hf => absurd hf (by omega))]
  simp only [Nat.mul_zero, Nat.pow_zero, Nat.mul_one, Nat.zero_add]
  rw [if_neg, List.drop_left, Int.toNat_of_nonneg h0]
  rw [List.length_append]
  omega
theorem bodyB_len {r : Rc} (h : r.ok) : (bodyB r).length ≤ 262150 ∧ 5 ≤ (bodyB r).length := by
  have h0 := h.k0
  have h1 := h.k1
  have h2 := h.len
  unfold bodyB
  rw [sealB_len, List.length_append]
  have := uintB_len2 (u := r.kind.toNat) (by omega)
  have := uintB_pos r.kind.toNat
  omega
theorem bodyB_bytes {r : Rc} (h : r.ok) : isBytes (bodyB r) := sealB_bytes (isBytes_append (uintB_bytes _) h.by')
theorem recB_bytes {r : Rc} (h : r.ok) : isBytes (recB r) := isBytes_append (uintB_bytes _) (bodyB_bytes h)
theorem uintB_len3 {u : Nat} (h : u ≤ 262150) : (uintB u).length ≤ 3 := by
  by_cases h1 : u < 128
  · rw [uintB_lt h1]; simp
  · rw [uintB_ge h1]
    by_cases h2 : u / 128 < 128
    · rw [uintB_lt h2]; simp
    · rw [uintB_ge h2, uintB_lt (by omega)]; simp
theorem recB_len {r : Rc} (h : r.ok) : (recB r).length ≤ 262153 ∧ 6 ≤ (recB r).length ∧ (recB r).length ≤ r.data.length + 9 := by
  have h1 := bodyB_len h
  have h2 := uintB_len3 h1.1
  have h3 := uintB_pos (bodyB r).length
  have h5 := h.k1
  have h6 := uintB_len2 (u := r.kind.toNat) (by omega)
  have h4 : (bodyB r).length = (uintB r.kind.toNat).length + r.data.length + 4 := by unfold bodyB; rw [sealB_len, List.length_append]
  unfold recB
  rw [List.length_append]
  omega
theorem recM_long {b : List Int} (hb : isBytes b) (h : 262150 < b.length) : recM b = none := by
  cases hr : recM b with
  | none => rfl
  | some r =>
    obtain ⟨h1, h2⟩ := recM_ok hb hr
    have := bodyB_len h2
    rw [h1] at h
    omega

/-- A record that is read is the one that is written there. -/
theorem oneM_ok {b : List Int} {r : Rc} {n : Nat} (hb : isBytes b) (h : oneM b = some (r, n)) : r.ok ∧ n ≤ b.length ∧ b.take n = recB r ∧ 0 < n := by
  unfold oneM at h
  split at h
  · rename_i m k hr
    obtain ⟨w, h1, h2, h3, h4, _, _, _⟩ := rdU_canon hb hr (by omega)
    simp only [Nat.mul_zero, Nat.pow_zero, Nat.mul_one, Nat.zero_add] at h1
    subst h1
    rw [Nat.sub_zero] at h4
    split at h
    · cases h
    · rename_i hn
      rw [Option.map_eq_some_iff] at h
      obtain ⟨r', h5, h6⟩ := h
      cases h6
      obtain ⟨h7, h8⟩ := recM_ok (isBytes_take _ (isBytes_drop _ hb)) h5
      refine ⟨h8, by omega, ?_, by omega⟩
      have hlen : (bodyB r).length = m := by rw [← h7, List.length_take, List.length_drop]; omega
      unfold recB
      rw [hlen, h4, ← h7, ← List.take_add]
  · cases h
theorem oneM_rec {r : Rc} (h : r.ok) (rest : List Int) : oneM (recB r ++ rest) = some (r, (recB r).length) := by
  have h1 := bodyB_len h
  unfold oneM recB
  rw [List.append_assoc, rdU_uintB (bodyB r ++ rest) (by omega) (by omega) (fun hf => absurd hf (by omega))]
  simp only [Nat.mul_zero, Nat.pow_zero, Nat.mul_one, Nat.zero_add]
  rw [if_neg (by simp only [List.length_append]; omega), List.drop_left, List.take_left, recM_body h]
  simp
theorem oneM_part {r : Rc} (h : r.ok) {k : Nat} (hk : k < (recB r).length) : oneM ((recB r).take k) = none := by
  have h1 := bodyB_len h
  have h3 := uintB_len3 h1.1
  unfold recB at hk ⊢
  rw [List.length_append] at hk
  rcases Nat.lt_or_ge k (uintB (bodyB r).length).length with h2 | h2
  · rw [List.take_append_of_le_length (by omega)]
    unfold oneM
    rw [rdU_part h2 (by omega)]
  · rw [List.take_append, List.take_of_length_le h2]
    unfold oneM
    rw [rdU_uintB _ (by omega) (by omega) (fun hf => absurd hf (by omega))]
    simp only [Nat.mul_zero, Nat.pow_zero, Nat.mul_one, Nat.zero_add]
    rw [if_pos]
    simp only [List.length_append, List.length_take]
    omega
theorem oneM_nil : oneM [] = none := rfl

theorem scanF_fuel : ∀ {f : Nat} {b : List Int}, isBytes b → b.length ≤ f → scanF f b = scanM b := by
  have : ∀ {n f g : Nat} {b : List Int}, isBytes b → b.length ≤ n → b.length ≤ f → b.length ≤ g → scanF f b = scanF g b := by
    intro n
    induction n with
    | zero =>
      intro f g b hb hn _ _
      have : b = [] := List.length_eq_zero_iff.1 (by omega)
      subst this
      cases f <;> cases g <;> rfl
    | succ n ih =>
      intro f g b hb hn hf hg
      cases b with
      | nil => cases f <;> cases g <;> rfl
      | cons x b =>
        cases f with
        | zero => simp at hf
        | succ f =>
          cases g with
          | zero => simp at hg
          | succ g =>
            simp only [scanF]
            cases h : oneM (x :: b) with
            | none => rfl
            | some p =>
              obtain ⟨r, m⟩ := p
              have hp := (oneM_ok hb h).2.2.2
              have hd : ((x :: b).drop m).length ≤ (x :: b).length - 1 := by rw [List.length_drop]; omega
              simp only [List.length_cons] at hn hf hg hd
              have := ih (f := f) (g := g) (b := (x :: b).drop m) (isBytes_drop _ hb) (by omega) (by omega) (by omega)
              dsimp only
              rw [this]
  intro f b hb h
  exact this (n := b.length) hb (Nat.le_refl _) h (Nat.le_refl _)
theorem scanM_none {b : List Int} (h : oneM b = none) : scanM b = ([], 0) := by
  unfold scanM
  cases b with
  | nil => rfl
  | cons x b => simp only [List.length_cons, scanF, h]
theorem scanM_some {b : List Int} {r : Rc} {n : Nat} (hb : isBytes b) (h : oneM b = some (r, n)) : scanM b = (r :: (scanM (b.drop n)).1, n + (scanM (b.drop n)).2) := by
  have hp := (oneM_ok hb h).2.2.2
  have e : scanM b = scanF (b.length + 1) b := (scanF_fuel hb (by omega)).symm
  rw [e]
  simp only [scanF, h]
  rw [scanF_fuel (isBytes_drop _ hb) (by rw [List.length_drop]; omega)]
theorem scanM_nil : scanM [] = ([], 0) := rfl
theorem scanM_app {r : Rc} (h : r.ok) {rest : List Int} (hr : isBytes rest) : scanM (recB r ++ rest) = (r :: (scanM rest).1, (recB r).length + (scanM rest).2) := by
  rw [scanM_some (isBytes_append (recB_bytes h) hr) (oneM_rec h rest), List.drop_left]
theorem recsB_bytes {rs : List Rc} (h : ∀ r ∈ rs, r.ok) : isBytes (rs.flatMap recB) := by
  intro x hx
  obtain ⟨r, hr, hx⟩ := List.mem_flatMap.1 hx
  exact recB_bytes (h r hr) x hx
/-- Whole records, then something that is none's. -/
theorem scanM_whole : ∀ {rs : List Rc} {t : List Int}, (∀ r ∈ rs, r.ok) → isBytes t → oneM t = none → scanM (rs.flatMap recB ++ t) = (rs, (rs.flatMap recB).length)
  | [], t, _, _, ht => by simp [scanM_none ht]
  | r :: rs, t, h, hb, ht => by
    have h1 := h r List.mem_cons_self
    have h2 : ∀ x ∈ rs, x.ok := fun x hx => h x (List.mem_cons_of_mem _ hx)
    rw [List.flatMap_cons, List.append_assoc, scanM_app h1 (isBytes_append (recsB_bytes h2) hb), scanM_whole h2 hb ht]
    simp
theorem scanM_recs {rs : List Rc} (h : ∀ r ∈ rs, r.ok) : scanM (rs.flatMap recB) = (rs, (rs.flatMap recB).length) := by
  have := scanM_whole (t := []) h (fun x hx => by cases hx) rfl
  rwa [List.append_nil] at this
/-- What is told is what stands there. -/
theorem scanM_ok : ∀ {n : Nat} {b : List Int}, b.length ≤ n → isBytes b → (∀ r ∈ (scanM b).1, r.ok) ∧ (scanM b).2 ≤ b.length ∧ (scanM b).1.flatMap recB = b.take (scanM b).2
  | n, b, hn, hb => by
    cases h : oneM b with
    | none => rw [scanM_none h]; exact ⟨fun r hr => (by cases hr), Nat.zero_le _, rfl⟩
    | some p =>
      obtain ⟨r, m⟩ := p
      obtain ⟨h1, h2, h3, h4⟩ := oneM_ok hb h
      rw [scanM_some hb h]
      cases n with
      | zero => omega
      | succ n =>
        obtain ⟨i1, i2, i3⟩ := scanM_ok (n := n) (b := b.drop m) (by rw [List.length_drop]; omega) (isBytes_drop _ hb)
        rw [List.length_drop] at i2
        refine ⟨fun x hx => ?_, by dsimp only; omega, ?_⟩
        · rcases List.mem_cons.1 hx with rfl | hx
          · exact h1
          · exact i1 x hx
        · rw [List.flatMap_cons, i3, ← h3, List.take_add]

/-- A text, then its record. -/
theorem one_text {b : List Int} (hb : isBytes b) :
    ((∃ e, e ≠ 0 ∧ tRes 262150 ⟨0, b⟩ = ([], ⟨e, b⟩)) ∧ oneM b = none) ∨
    ∃ k n, (tRes 262150 ⟨0, b⟩) = ((b.drop k).take n, ⟨0, b.drop (k + n)⟩) ∧ k + n ≤ b.length ∧ 0 < k ∧ oneM b = (recM ((b.drop k).take n)).map fun r => (r, k + n) := by
  unfold tRes oneM
  simp only [ne_eq, not_true_eq_false, if_false]
  cases hr : rdU 0 0 b with
  | form => exact .inl ⟨⟨10, by decide, rfl⟩, rfl⟩
  | ended => exact .inl ⟨⟨15, by decide, rfl⟩, rfl⟩
  | ok n k =>
    have hk := rdU_size hb hr
    dsimp only
    by_cases h1 : (max 262150 0 : Int) < n
    · rw [if_pos h1]
      refine .inl ⟨⟨17, by decide, rfl⟩, ?_⟩
      split
      · rfl
      · rw [recM_long (isBytes_take _ (isBytes_drop _ hb)) (by rw [List.length_take, List.length_drop]; omega)]
        rfl
    · rw [if_neg h1]
      by_cases h2 : b.length < k + n
      · rw [if_pos h2, if_pos h2]
        exact .inl ⟨⟨15, by decide, rfl⟩, rfl⟩
      · rw [if_neg h2, if_neg h2]
        exact .inr ⟨k, n, rfl, by omega, hk.1, rfl⟩
/-- The code's way to a record. -/
theorem recM_count {b : List Int} (hb : isBytes b) (h0 : (openM b).1 = 0) :
    ((∃ e, e ≠ 0 ∧ cRes 255 ⟨0, (openM b).2⟩ = (0, ⟨e, (openM b).2⟩)) ∧ recM b = none) ∨
    (∃ kind j : Nat, cRes 255 ⟨0, (openM b).2⟩ = ((kind : Int), ⟨0, (openM b).2.drop j⟩) ∧ j ≤ (openM b).2.length ∧ recM b = if 262144 < (openM b).2.length - j then none else some ⟨kind, (openM b).2.drop j⟩) := by
  have hp := openM_sub hb
  unfold recM cRes
  obtain ⟨p, he⟩ : ∃ p, openM b = (0, p) := ⟨(openM b).2, by rw [← h0]⟩
  rw [he] at hp ⊢
  dsimp only at hp ⊢
  simp only [ne_eq, not_true_eq_false, if_false]
  cases hr : rdU 0 0 p with
  | form => exact .inl ⟨⟨10, by decide, rfl⟩, rfl⟩
  | ended => exact .inl ⟨⟨15, by decide, rfl⟩, rfl⟩
  | ok n k =>
    have hk := rdU_size hp hr
    dsimp only
    by_cases h1 : (max 255 0 : Int) < n
    · rw [if_pos h1, if_pos (Or.inl (by omega))]
      exact .inl ⟨⟨17, by decide, rfl⟩, rfl⟩
    · rw [if_neg h1]
      refine .inr ⟨n, k, rfl, hk.2.1, ?_⟩
      by_cases h2 : 262144 < p.length - k
      · rw [if_pos (Or.inr h2), if_pos h2]
      · rw [if_neg (by omega), if_neg h2]
end Go.Nm
namespace Go.Nm
open Go
structure Ry where
  kind : Int
  y : Fy
def Ry.rc (r : Ry) : Rc := ⟨r.kind, r.y.bs⟩
abbrev encR (r : Ry) : List Value := [.int .i64 r.kind, encY r.y]
theorem encR_len (r : Ry) : (encR r).length = 2 := rfl
def rowsR (rs : List Ry) : Assn := star (rs.map fun r => rowY r.y)
theorem rowsR_append (a b : List Ry) : rowsR (a ++ b) = rowsR a * rowsR b := by unfold rowsR; rw [List.map_append, star_append]
theorem rowsR_one (r : Ry) : rowsR [r] = rowY r.y := by unfold rowsR; simp only [List.map_cons, List.map_nil, star]; rw [sep_emp]
theorem rowsR_rd : ∀ {rs : List Ry} {H : Heap} {F : List Assn}, SatL H (rowsR rs :: F) → ∀ r ∈ rs, rdS H r.y.a (r.y.bs.map U8)
  | [], _, _, _, r, hr => by cases hr
  | x :: rs, H, F, h, r, hr => by
    have h2 : SatL H (rowY x.y :: rowsR rs :: F) := satL_sep.1 h
    rcases List.mem_cons.1 hr with rfl | hr
    · exact h2.sl_rd 0 rfl
    · exact rowsR_rd h2.tl r hr
theorem rowsR_nc : ∀ {rs : List Ry} {H : Heap} {F : List Assn}, SatL H (rowsR rs :: F) → ∀ r ∈ rs, r.y.bs.length ≤ r.y.c
  | [], _, _, _, r, hr => by cases hr
  | x :: rs, H, F, h, r, hr => by
    have h2 : SatL H (rowY x.y :: rowsR rs :: F) := satL_sep.1 h
    rcases List.mem_cons.1 hr with rfl | hr
    · exact h2.sl_nc 0 rfl
    · exact rowsR_nc h2.tl r hr
theorem rdS.sb0 {H : Heap} {a : Option Addr} {cs : List Value} {m : Nat} (h : rdS H a cs) : rdS H (slB a 0 m 1) cs := by
  cases cs with
  | nil => exact rdS_nil _ _
  | cons v r => rw [slB0 (h 0 v rfl).1]; exact h
end Go.Nm
namespace Go.Proofs.YtomdcdfcdeaabaaGreat
open Go Go.Nm Go.Proofs
theorem sl54 : SlT Tryz.prog 33 64 2 32 := slT_of (by kernel_rfl)
theorem sl57 : SlT Tryz.prog 40 124 2 32 := slT_of (by kernel_rfl)
section
variable {F L : List Assn} {H : Heap} {K : Value → Heap → Prop}

theorem sClone_own {a : Option Addr} {c : Nat} {bs : List Int} (h : SatL H L) (ha : ∀ H, SatL H L → rdS H a (bs.map U8)) (hl : bs.length ≤ 1099511627776)
    (k : ∀ a' c' H', SatL H' (slA 5 1 a' bs.length c' (bs.map U8) :: L) → K (.slice a' bs.length c') H') : CallF Tryz.prog 77 #[.slice a bs.length c] H K := by
  refine slices_Clone_byte.call ⟨fun hc => ?_, fun hc => ?_⟩
  · have : a = none := by simpa using hc
    subst this
    have hz := rdS_none (ha H h)
    have : bs = [] := by simpa using hz
    subst this
    exact k none 0 H (h.sl_nil 5 1)
  · refine h.al fun b H1 h => ?_
    have hr := ha _ h.tl
    have h1 := SatL.sl_pt (cs := []) h 1 0 rfl
    refine SatL.append (m := bs.length) sl32 h1 0 rfl hr (by simp) (plain_map (fun _ => rfl) _) (by omega) (by omega) fun a' c' H' h2 => ⟨_, _, _, rfl, ?_⟩
    have h3 : SatL H' (slA 5 1 a' (0 + bs.length) c' ([] ++ bs.map U8) :: L) := h2
    rw [Nat.zero_add, List.nil_append] at h3
    have := k a' c' H' h3
    simpa using this

theorem record_spec {a : Option Addr} {c : Nat} {bs : List Int} (h : SatL H F) (hF : ∀ H, SatL H F → rdS H a (bs.map U8)) (hb : isBytes bs) (hl : bs.length ≤ 1099511627776) (hc : bs.length ≤ c)
    (k1 : ∀ (r : Ry) H', recM bs = some r.rc → SatL H' (rowY r.y :: F) → K (.tuple #[.agg #[.int .i64 r.kind, encY r.y], .bool true]) H')
    (k2 : ∀ H', recM bs = none → SatL H' F → K (.tuple #[.agg #[.int .i64 0, .slice none 0 0], .bool false]) H') :
    CallF Tryz.prog 62 #[.slice a bs.length c] H K := by
  refine reel_record.call ?_
  unfold reel_record.code
  refine h.al fun b H1 h => ?_
  refine crcOpen_spec h (fun H h => hF H h.tl) hb hl hc (fun a1 c1 p H2 ho h => ?_) fun e H2 he ho h => ?_
  · refine ⟨_, _, _, _, rfl, (fun hf => by cases hf), fun _ => ?_⟩
    have hpl : p.length ≤ bs.length := by
      have := congrArg List.length (openM_ok ho)
      rw [sealB_len] at this
      omega
    have hpb : isBytes p := by have := openM_sub hb; rwa [ho] at this
    have hrc := recM_count hb (by rw [ho])
    rw [ho] at hrc
    dsimp only at hrc
    refine CNew_spec h (fun H h => h.sl_rd 0 rfl) (by omega) fun rb H3 h => ⟨_, rfl, ?_⟩
    refine Count_spec h hpb (by dsimp only; omega) (by unfold wf64; omega) fun H4 h => ⟨_, rfl, _, ErrX_spec h, _, fun _ => LeftX_spec h, fun hx => ?_, fun hx => ?_⟩
    · refine h.st 2 rfl rfl fun H5 h => ⟨_, _, _, _, h.rds 2 rfl rfl, k2 _ ?_ h.tl.tl.tl⟩
      rcases hrc with ⟨_, hn⟩ | ⟨kind, j, h1, h2, h3⟩
      · exact hn
      · rw [h3]
        rw [h1] at hx
        simp only [List.length_drop, decide_true, Bool.not_true, Bool.false_or, decide_eq_true_eq] at hx
        rw [if_pos (by omega)]
    · rcases hrc with ⟨⟨e, he, h1⟩, _⟩ | ⟨kind, j, h1, h2, h3⟩
      · rw [h1] at hx
        simp [he] at hx
      · rw [h1] at hx h ⊢
        dsimp only at h ⊢
        simp only [List.length_drop, decide_true, Bool.not_true, Bool.false_or, decide_eq_false_iff_not] at hx
        rw [if_neg (by omega)] at h3
        refine ⟨_, LeftX_spec h, ?_⟩
        dsimp only
        have hj : IntKind.i64.wrap ((p.length : Int) - ((p.drop j).length : Int)) = (j : Nat) := by
          rw [List.length_drop, w64 (by omega) (by omega)]
          omega
        have hnc := h.sl_nc 1 rfl
        rw [hj, Int.toNat_natCast]
        refine ⟨⟨by omega, by omega, by omega⟩, ?_⟩
        rw [show p.length - j = (p.drop j).length by rw [List.length_drop]]
        refine sClone_own h (fun H h => by
          have := (h.sl_rd 1 rfl).subB (k := j) (c := c1) (by simpa using hnc)
          rwa [← List.map_drop] at this) (by rw [List.length_drop]; omega) fun a5 c5 H5 h => ⟨_, _, _, rfl, ?_⟩
        refine h.st 3 rfl rfl fun H6 h => ⟨_, _, _, _, h.rds 3 rfl rfl, ?_⟩
        refine k1 ⟨kind, ⟨a5, c5, p.drop j⟩⟩ _ h3 ?_
        exact h.ordt [0] 4 (by decide) (by decide)
  · refine ⟨_, _, _, _, rfl, fun _ => ?_, fun hf => by simp [he] at hf⟩
    refine h.st 0 rfl rfl fun H3 h => ⟨_, _, _, _, h.rds 0 rfl rfl, k2 _ ?_ h.tl⟩
    unfold recM
    rw [ho, if_pos he]

theorem one_spec {a : Option Addr} {c : Nat} {bs : List Int} (h : SatL H F) (hF : ∀ H, SatL H F → rdS H a (bs.map U8)) (hb : isBytes bs) (hl : bs.length ≤ 1099511627776) (hc : bs.length ≤ c)
    (k1 : ∀ (r : Ry) (n : Nat) H', oneM bs = some (r.rc, n) → SatL H' (rowY r.y :: F) → K (.tuple #[.agg #[.int .i64 r.kind, encY r.y], .int .i64 n]) H')
    (k2 : ∀ H', oneM bs = none → SatL H' F → K (.tuple #[.agg #[.int .i64 0, .slice none 0 0], .int .i64 0]) H') :
    CallF Tryz.prog 78 #[.slice a bs.length c] H K := by
  refine R11_one.call ?_
  unfold R11_one.code
  refine h.al fun b H1 h => ?_
  refine RNew_spec h fun rb H2 h => ⟨_, rfl, ?_⟩
  refine RdUint_spec h (fun H h => hF H h.tl) hb hl hc (fun u n H3 hu h => ⟨_, rfl, nn_some ⟨_, h.rd 0 rfl _, fun _ => trivial, _, _, _, fun _ => h.rd 0 rfl _, fun hx => ?_, fun hx => ?_⟩⟩) fun e H3 hu he h => ⟨_, rfl, nn_some ⟨_, h.rd 0 rfl _, fun _ => trivial, _, _, _, fun _ => h.rd 0 rfl _, fun hx => ?_, fun hx => ?_⟩⟩
  · have hn := rdU_size hb hu
    rw [u64w (by omega) (by omega)] at hx
    have hlt : bs.length < n + u := by simp at hx; omega
    refine h.st 1 rfl rfl fun H5 h => ⟨_, _, _, _, h.rds 1 rfl rfl, k2 _ ?_ h.tl.tl⟩
    unfold oneM
    rw [hu]
    dsimp only
    rw [if_pos hlt]
  · have hn := rdU_size hb hu
    rw [u64w (by omega) (by omega)] at hx
    have hge : ¬ bs.length < n + u := by simp at hx; omega
    obtain ⟨t, ht⟩ : ∃ t, (bs.drop n).take u = t := ⟨_, rfl⟩
    have htl : t.length = u := by rw [← ht, List.length_take, List.length_drop]; omega
    have htb : isBytes t := by rw [← ht]; exact isBytes_take _ (isBytes_drop _ hb)
    have hone : oneM bs = (recM t).map fun r => (r, n + u) := by
      unfold oneM
      rw [hu]
      dsimp only
      rw [if_neg hge, ht]
    have hrt : ∀ H, SatL H F → rdS H (slB (slB a n c 1) 0 (c - n) 1) (t.map U8) := fun H h => by
      have := ((hF H h).subB (k := n) (c := c) (by simpa using hc)).take u
      rw [← List.map_drop, ← List.map_take, ht] at this
      exact this.sb0
    refine nn_some ⟨_, _, _, h.rd 0 rfl _, ⟨by omega, by omega, by omega⟩, ?_⟩
    rw [Int.toNat_natCast]
    rw [show (Value.slice (slB (slB a n c 1) 0 (c - n) 1) u (c - n)) = .slice (slB (slB a n c 1) 0 (c - n) 1) t.length (c - n) by rw [htl]]
    refine R07Open_spec h (fun H h => hrt H h.tl.tl) (by omega) (by omega) (fun a1 c1 p H4 ho h => ⟨_, _, _, _, rfl, (fun hf => by cases hf), fun _ => ?_⟩) fun e H4 he ho h => ⟨_, _, _, _, rfl, fun _ => ?_, fun hf => by simp [he] at hf⟩
    · have hpl : p.length ≤ t.length := by
        have := congrArg List.length (openM_ok ho)
        rw [sealB_len] at this
        omega
      have hpb : isBytes p := by have := openM_sub htb; rwa [ho] at this
      have hnc := h.sl_nc 0 rfl
      have hrm : recM t = match rdU 0 0 p with
        | .ok kind j => if 255 < kind ∨ 262144 < p.length - j then none else some ⟨kind, p.drop j⟩
        | _ => none := by
        unfold recM
        rw [ho, if_neg (by simp)]
        try dsimp only
        try (cases rdU 0 0 p <;> rfl)
      refine RNew_spec h fun sb H5 h => ⟨_, rfl, ?_⟩
      refine RdUint_spec h (fun H h => h.sl_rd 0 rfl) hpb (by omega) hnc (fun kind j H6 hk h => ⟨_, rfl, nn_some ⟨_, h.rd 0 rfl _, fun _ => trivial, _, _, _, fun _ => h.rd 0 rfl _, fun hx => ?_, fun hx => ?_⟩⟩) fun e H6 hk he h => ⟨_, rfl, nn_some ⟨_, h.rd 0 rfl _, fun _ => trivial, _, _, _, fun _ => h.rd 0 rfl _, fun hx => ?_, fun hx => ?_⟩⟩
      · rw [hk] at hrm
        refine h.st 3 rfl rfl fun H5 h => ⟨_, _, _, _, h.rds 3 rfl rfl, k2 _ ?_ h.tl.tl.tl.tl⟩
        rw [hone, hrm]
        dsimp only
        simp only [decide_true, Bool.not_true, Bool.false_or, Bool.or_eq_true, decide_eq_true_eq] at hx
        rw [if_pos (by omega)]
        rfl
      · rw [hk] at hrm
        have hkj := rdU_size hpb hk
        simp only [decide_true, Bool.not_true, Bool.false_or, Bool.or_eq_false_iff, decide_eq_false_iff_not] at hx
        dsimp only at hrm
        rw [if_neg (by omega)] at hrm
        refine nn_some ⟨_, _, _, h.rd 0 rfl _, nn_some ⟨_, _, _, h.rd 2 rfl _, ?_⟩⟩
        rw [show p.length - j = (p.drop j).length by rw [List.length_drop]]
        refine CopyBytes_own h (fun H h => by
          have := (h.sl_rd 1 rfl).subB (k := j) (c := c1) (by simpa using hnc)
          rwa [← List.map_drop] at this) (by rw [List.length_drop]; omega) fun a5 c5 H7 h => ⟨_, _, _, rfl, h.rd 3 rfl _, ?_⟩
        rw [w64 (x := (kind : Int)) (by omega) (by omega)]
        refine h.st 4 rfl rfl fun H8 h => ⟨h.rd 3 rfl _, _, _, _, _, h.rds 4 rfl rfl, ?_⟩
        have e1 : IntKind.i64.wrap ((IntKind.i64.wrap ((bs.length : Int) - ((bs.length - n : Nat) : Int))) + (IntKind.i64.wrap (u : Int))) = ((n + u : Nat) : Int) := by
          rw [w64 (x := (u : Int)) (by omega) (by omega), w64 (x := (bs.length : Int) - ((bs.length - n : Nat) : Int)) (by omega) (by omega), w64 (by omega) (by omega)]
          omega
        rw [e1]
        refine k1 ⟨kind, ⟨a5, c5, p.drop j⟩⟩ (n + u) _ ?_ ?_
        · rw [hone, hrm]; rfl
        · exact h.ordt [0] 5 (by decide) (by decide)
      · have hnone : recM t = none := by
          rw [hrm]
          cases hr : rdU 0 0 p with
          | ok x y => exact absurd hr (hk x y)
          | form => rfl
          | ended => rfl
        refine h.st 3 rfl rfl fun H5 h => ⟨_, _, _, _, h.rds 3 rfl rfl, k2 _ ?_ h.tl.tl.tl.tl⟩
        rw [hone, hnone]
        rfl
      · simp [he] at hx
    · refine h.st 1 rfl rfl fun H5 h => ⟨_, _, _, _, h.rds 1 rfl rfl, k2 _ ?_ h.tl.tl⟩
      rw [hone]
      unfold recM
      rw [ho, if_pos he]
      rfl
  · refine h.st 1 rfl rfl fun H5 h => ⟨_, _, _, _, h.rds 1 rfl rfl, k2 _ ?_ h.tl.tl⟩
    unfold oneM
    cases hr : rdU 0 0 bs with
    | ok x y => exact absurd hr (hu x y)
    | form => rfl
    | ended => rfl
  · simp [he] at hx
end
end Go.Proofs.YtomdcdfcdeaabaaGreat
namespace Go.Proofs.YtomdcdfcdeaabaaGreat
open Go Go.Nm Go.Proofs
section
variable {F L : List Assn} {H : Heap} {K : Value → Heap → Prop}

theorem bytes_of_str {t : List Int} (hb : isBytes t) (h : SatL H L) (k : ∀ a c H', SatL H' (slA 5 1 a t.length c (t.map U8) :: L) → K (.slice a t.length c) H') :
    RunW Tryz.prog (convert 9 32 (.string (strB t))) H K := by
  intro w hw
  subst hw
  have hs : (strB t).size = t.length := strOfNums_size t
  have hr := run_bytes_of_string w 9 32 5 (strB t) (P := Tryz.prog) (by kernel_rfl) (by kernel_rfl) (by kernel_rfl)
  rw [hs] at hr
  have hcap := grownCap_ge w t.length 0 5
  obtain ⟨cap, hcp⟩ : ∃ cap, grownCap w t.length 0 5 = cap := ⟨_, rfl⟩
  rw [hcp] at hr hcap
  have hrow : (bytesRow (strB t) cap).toList = t.map U8 ++ List.replicate (cap - t.length) (U8 0) := by
    have e1 : (bytesRow (strB t) cap).toList = (strB t).data.toList.map (fun b => U8 (b.toNat : Int)) ++ List.replicate (cap - (strB t).size) (U8 0) := by
      unfold bytesRow
      simp only [Array.toList_append, Array.toList_map, Array.toList_replicate]
    have e2 : (strB t).data.toList.map (fun b => U8 (b.toNat : Int)) = t.map U8 := by
      have : (strB t).data.toList = t.map fun n => UInt8.ofNat n.toNat := strOfNums_data t
      rw [this, List.map_map]
      refine List.ext_getElem (by simp) fun i h1 h2 => ?_
      simp only [List.getElem_map, Function.comp_apply]
      rw [u8_bytes hb i (by simpa using h2)]
    rw [e1, e2, hs]
  have hrow2 : bytesRow (strB t) cap = (t.map U8 ++ List.replicate (cap - t.length) (U8 0)).toArray := by
    have := congrArg List.toArray hrow
    rwa [Array.toArray_toList] at this
  refine ⟨_, _, hr, ⟨rfl, rfl, rfl⟩, k _ _ _ ?_⟩
  rw [hrow2]
  have hp : SatL _ _ := h.push (.cells (t.map U8 ++ List.replicate (cap - t.length) (U8 0)).toArray 5 ((t.map U8 ++ List.replicate (cap - t.length) (U8 0)).toArray.size, (t.map U8 ++ List.replicate (cap - t.length) (U8 0)).toArray.size + 1))
  generalize hC : t.map U8 ++ List.replicate (cap - t.length) (U8 0) = C at hp
  have hCl : C.length = cap := by rw [← hC]; simp; omega
  refine SatL.mono hp fun p hp => ⟨by simp, .inr ⟨_, [], List.replicate (cap - t.length) (U8 0), 5, (C.toArray.size, C.toArray.size + 1), rfl, hcap, by simp, fun _ i h1 h2 hh => ?_, ?_⟩⟩
  · have h3 := hh.1
    simp only [List.size_toArray, hCl] at h3
    simp only [List.length_nil] at h2
    omega
  · rw [List.nil_append, hC]
    exact hp

theorem scan_spec {a : Option Addr} {c : Nat} {bs : List Int} (h : SatL H F) (hF : ∀ H, SatL H F → rdS H a (bs.map U8)) (hb : isBytes bs) (hl : bs.length ≤ 1099511627776)
    (k : ∀ (rs : List Ry) a' c' H', rs.map Ry.rc = (scanM bs).1 → SatL H' (slA 64 2 a' rs.length c' (flat encR rs) :: rowsR rs :: F) → K (.tuple #[.slice a' rs.length c', .int .i64 (scanM bs).2]) H') :
    CallF Tryz.prog 42 #[.slice a bs.length c] H K := by
  refine reel_Scan.call ?_
  unfold reel_Scan.code
  refine CNew_spec h hF hl fun rb H1 h => ⟨_, rfl, fun Jn hJ => ?_⟩
  have fin : ∀ la lc (rs : List Ry) (w : Nat) s t H', oneM t = none → scanM bs = (rs.map Ry.rc ++ (scanM t).1, w + (scanM t).2) → SatL H' (crdA rb s :: slA 64 2 la rs.length lc (flat encR rs) :: rowsR rs :: F) → Jn la rs.length lc w H' := by
    intro la lc rs w s t H' hn he h'
    refine hJ _ _ _ _ _ ?_
    unfold reel_Scan.r1
    rw [scanM_none hn, List.append_nil, Nat.add_zero] at he
    have := k rs la lc H' (by rw [he]) h'.tl
    rwa [he] at this
  refine ⟨fun la ln lc used H' => ∃ (rs : List Ry) (w : Nat), ln = rs.length ∧ used = w ∧ w ≤ bs.length ∧ rs.length ≤ w ∧ scanM bs = (rs.map Ry.rc ++ (scanM (bs.drop w)).1, w + (scanM (bs.drop w)).2) ∧
      SatL H' (crdA rb ⟨0, bs.drop w⟩ :: slA 64 2 la rs.length lc (flat encR rs) :: rowsR rs :: F), fun _ _ _ used _ => bs.length - used.toNat, ⟨[], 0, rfl, rfl, Nat.zero_le _, Nat.zero_le _, by simp, ?_⟩, ?_⟩
  · have h2 : SatL H1 (rowsR [] :: crdA rb ⟨0, bs⟩ :: F) := satL_emp.2 h
    have h3 := (h2.sl_nil 64 2).ordt [2, 0, 1] 3 (by decide) (by decide)
    exact h3
  rintro la ln lc used H2 ⟨rs, w, rfl, rfl, hw, hrw, he, h⟩
  have hdb : isBytes (bs.drop w) := isBytes_drop _ hb
  unfold reel_Scan.l2
  refine ⟨_, LeftX_spec h, fun hx => ?_, fun hx => ?_⟩
  · refine Text_spec h hdb (by simp only [List.length_drop]; omega) (by unfold wf64; omega) fun H3 h => ⟨_, rfl, _, ErrX_spec h, fun hx => ?_, fun hx => ?_⟩
    · rcases one_text hdb with ⟨⟨e, he1, he2⟩, hn⟩ | ⟨kk, n, ht, hle, hk0, ho⟩
      · rw [he2] at h
        exact fin _ _ _ _ _ _ _ hn he h
      · rw [ht] at hx
        simp at hx
    · rcases one_text hdb with ⟨⟨e, he1, he2⟩, hn⟩ | ⟨kk, n, ht, hle, hk0, ho⟩
      · rw [he2] at hx
        simp [he1] at hx
      · rw [ht] at h ⊢
        dsimp only at h ⊢
        obtain ⟨t, htx⟩ : ∃ t, ((bs.drop w).drop kk).take n = t := ⟨_, rfl⟩
        rw [htx] at ho ⊢
        have htb : isBytes t := by rw [← htx]; exact isBytes_take _ (isBytes_drop _ hdb)
        have htl : t.length ≤ bs.length := by rw [← htx]; simp only [List.length_take, List.length_drop]; omega
        rw [List.length_drop] at hle
        refine bytes_of_str htb h fun a4 c4 H4 h => ⟨_, _, _, rfl, ?_⟩
        have hnc := h.sl_nc 0 rfl
        refine record_spec h (fun H h => h.sl_rd 0 rfl) htb (by omega) hnc (fun r H5 hr h => ⟨_, _, _, _, _, rfl, ?_⟩) fun H5 hr h => ⟨_, _, _, _, _, rfl, ?_⟩
        · refine h.al fun b6 H6 h => ?_
          refine h.st 0 rfl rfl fun H7 h => ⟨(fun hf => by cases hf), fun _ => ⟨_, _, _, _, h.rds 0 rfl rfl, ?_⟩⟩
          rw [hr, Option.map_some] at ho
          rw [List.drop_drop] at h
          rintro _ _ rfl rfl
          refine h.append1 sl54 4 rfl (by rfl) (by rfl) (by omega) (by omega) fun a8 c8 H8 h => ⟨_, _, _, rfl, ?_⟩
          have h := h.ordt [3, 4, 5, 1] 6 (by decide) (by decide)
          refine ⟨_, LeftX_spec h, ?_⟩
          have e1 : IntKind.i64.wrap ((bs.length : Int) - ((bs.drop (w + (kk + n))).length : Int)) = ((w + (kk + n) : Nat) : Int) := by
            rw [List.length_drop, w64 (by omega) (by omega)]
            omega
          dsimp only
          rw [e1]
          refine ⟨⟨rs ++ [r], w + (kk + n), by simp, rfl, by omega, by rw [List.length_append, List.length_singleton]; omega, ?_, ?_⟩, by simp only [Int.toNat_natCast]; omega⟩
          · rw [he, scanM_some hdb ho, List.drop_drop]
            simp [Nat.add_assoc]
          · rw [rowsR_append, rowsR_one, flat_append, flat_one, List.length_append, List.length_singleton]
            have h2 := h.ordt [0, 1, 2, 3] 4 (by decide) (by decide)
            have h3 : SatL H8 (slA 64 2 a8 (rs.length + 1) c8 (flat encR rs ++ encR r) :: crdA rb ⟨0, bs.drop (w + (kk + n))⟩ :: rowsR rs :: rowY r.y :: F) := h.ordt [1, 0, 2, 3] 4 (by decide) (by decide)
            have h4 := h3.ordt [2, 3, 1, 0] 4 (by decide) (by decide)
            have h5 := satL_sep.2 h4
            exact h5.ordt [1, 2, 0] 3 (by decide) (by decide)
        · refine h.al fun b6 H6 h => ?_
          refine h.st 0 rfl rfl fun H7 h => ⟨fun _ => ?_, (fun hf => by cases hf)⟩
          rw [hr, Option.map_none] at ho
          exact fin _ _ _ _ _ _ _ ho he (h.ordt [2, 3, 4] 5 (by decide) (by decide))
  · have hd : bs.drop w = [] := by
      simp at hx
      exact List.drop_eq_nil_of_le (by omega)
    exact fin _ _ _ _ _ _ _ (by rw [hd]; rfl) he h
end
end Go.Proofs.YtomdcdfcdeaabaaGreat
