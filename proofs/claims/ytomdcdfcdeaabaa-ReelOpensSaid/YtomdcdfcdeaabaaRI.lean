/-
  A record at the beginning of bytes: both sides.
-/
import Derived.Test.YtomdcdfcdeaabaaRH
set_option linter.unusedVariables false
set_option linter.unusedSimpArgs false
namespace Go.Nm
open Go
structure Ry where
  kind : Int
  y : Fy
def Ry.rc (r : Ry) : Rc := ⟨r.kind, r.y.bs⟩
abbrev encR (r : Ry) : List Value := [.int .i64 r.kind, encY r.y]
theorem encR_len (r : Ry) : (encR r).length = 2 := rfl
def rowsR (rs : List Ry) : Assn := star (rs.map fun r => rowY r.y)
theorem rowsR_append (a b : List Ry) : rowsR (a ++ b) = rowsR a * rowsR b := by unfold rowsR; rw [List.map_append, star_append]
theorem rowsR_one (r : Ry) : rowsR [r] = rowY r.y := by unfold rowsR; simp only [List.map_cons, List.map_nil, star]; rw [sep_emp]
theorem rowsR_rd : ∀ {rs : List Ry} {H : Heap} {F : List Assn}, SatL H (rowsR rs :: F) → ∀ r ∈ rs, rdS H r.y.a (r.y.bs.map U8)
  | [], _, _, _, r, hr => by cases hr
  | x :: rs, H, F, h, r, hr => by
    have h2 : SatL H (rowY x.y :: rowsR rs :: F) := satL_sep.1 h
    rcases List.mem_cons.1 hr with rfl | hr
    · exact h2.sl_rd 0 rfl
    · exact rowsR_rd h2.tl r hr
theorem rowsR_nc : ∀ {rs : List Ry} {H : Heap} {F : List Assn}, SatL H (rowsR rs :: F) → ∀ r ∈ rs, r.y.bs.length ≤ r.y.c
  | [], _, _, _, r, hr => by cases hr
  | x :: rs, H, F, h, r, hr => by
    have h2 : SatL H (rowY x.y :: rowsR rs :: F) := satL_sep.1 h
    rcases List.mem_cons.1 hr with rfl | hr
    · exact h2.sl_nc 0 rfl
    · exact rowsR_nc h2.tl r hr
theorem rdS.sb0 {H : Heap} {a : Option Addr} {cs : List Value} {m : Nat} (h : rdS H a cs) : rdS H (slB a 0 m 1) cs := by
  cases cs with
  | nil => exact rdS_nil _ _
  | cons v r => rw [slB0 (h 0 v rfl).1]; exact h
end Go.Nm
namespace Go.Proofs.Ytomdcdfcdeaabaa
open Go Go.Nm Go.Proofs
theorem sl54 : SlT Try.prog 54 52 2 32 := slT_of (by kernel_rfl)
theorem sl57 : SlT Try.prog 57 80 2 32 := slT_of (by kernel_rfl)
section
variable {F L : List Assn} {H : Heap} {K : Value → Heap → Prop}

theorem sClone_own {a : Option Addr} {c : Nat} {bs : List Int} (h : SatL H L) (ha : ∀ H, SatL H L → rdS H a (bs.map U8)) (hl : bs.length ≤ 1099511627776)
    (k : ∀ a' c' H', SatL H' (slA 5 1 a' bs.length c' (bs.map U8) :: L) → K (.slice a' bs.length c') H') : CallF Try.prog 96 #[.slice a bs.length c] H K := by
  refine slices_Clone_byte.call ⟨fun hc => ?_, fun hc => ?_⟩
  · have : a = none := by simpa using hc
    subst this
    have hz := rdS_none (ha H h)
    have : bs = [] := by simpa using hz
    subst this
    exact k none 0 H (h.sl_nil 5 1)
  · refine h.al fun b H1 h => ?_
    have hr := ha _ h.tl
    have h1 := SatL.sl_pt (cs := []) h 1 0 rfl
    refine SatL.append (m := bs.length) sl32 h1 0 rfl hr (by simp) (plain_map (fun _ => rfl) _) (by omega) (by omega) fun a' c' H' h2 => ⟨_, _, _, rfl, ?_⟩
    have h3 : SatL H' (slA 5 1 a' (0 + bs.length) c' ([] ++ bs.map U8) :: L) := h2
    rw [Nat.zero_add, List.nil_append] at h3
    have := k a' c' H' h3
    simpa using this

theorem record_spec {a : Option Addr} {c : Nat} {bs : List Int} (h : SatL H F) (hF : ∀ H, SatL H F → rdS H a (bs.map U8)) (hb : isBytes bs) (hl : bs.length ≤ 1099511627776) (hc : bs.length ≤ c)
    (k1 : ∀ (r : Ry) H', recM bs = some r.rc → SatL H' (rowY r.y :: F) → K (.tuple #[.agg #[.int .i64 r.kind, encY r.y], .bool true]) H')
    (k2 : ∀ H', recM bs = none → SatL H' F → K (.tuple #[.agg #[.int .i64 0, .slice none 0 0], .bool false]) H') :
    CallF Try.prog 75 #[.slice a bs.length c] H K := by
  refine reel_record.call ?_
  unfold reel_record.code
  refine h.al fun b H1 h => ?_
  refine crcOpen_spec h (fun H h => hF H h.tl) hb hl hc (fun a1 c1 p H2 ho h => ?_) fun e H2 he ho h => ?_
  · refine ⟨_, _, _, _, rfl, (fun hf => by cases hf), fun _ => ?_⟩
    have hpl : p.length ≤ bs.length := by
      have := congrArg List.length (openM_ok ho)
      rw [sealB_len] at this
      omega
    have hpb : isBytes p := by have := openM_sub hb; rwa [ho] at this
    have hrc := recM_count hb (by rw [ho])
    rw [ho] at hrc
    dsimp only at hrc
    refine CNew_spec h (fun H h => h.sl_rd 0 rfl) (by omega) fun rb H3 h => ⟨_, rfl, ?_⟩
    refine Count_spec h hpb (by dsimp only; omega) (by unfold wf64; omega) fun H4 h => ⟨_, rfl, _, ErrX_spec h, _, fun _ => LeftX_spec h, fun hx => ?_, fun hx => ?_⟩
    · refine h.st 2 rfl rfl fun H5 h => ⟨_, _, _, _, h.rds 2 rfl rfl, k2 _ ?_ h.tl.tl.tl⟩
      rcases hrc with ⟨_, hn⟩ | ⟨kind, j, h1, h2, h3⟩
      · exact hn
      · rw [h3]
        rw [h1] at hx
        simp only [List.length_drop, decide_true, Bool.not_true, Bool.false_or, decide_eq_true_eq] at hx
        rw [if_pos (by omega)]
    · rcases hrc with ⟨⟨e, he, h1⟩, _⟩ | ⟨kind, j, h1, h2, h3⟩
      · rw [h1] at hx
        simp [he] at hx
      · rw [h1] at hx h ⊢
        dsimp only at h ⊢
        simp only [List.length_drop, decide_true, Bool.not_true, Bool.false_or, decide_eq_false_iff_not] at hx
        rw [if_neg (by omega)] at h3
        refine ⟨_, LeftX_spec h, ?_⟩
        dsimp only
        have hj : IntKind.i64.wrap ((p.length : Int) - ((p.drop j).length : Int)) = (j : Nat) := by
          rw [List.length_drop, w64 (by omega) (by omega)]
          omega
        have hnc := h.sl_nc 1 rfl
        rw [hj, Int.toNat_natCast]
        refine ⟨⟨by omega, by omega, by omega⟩, ?_⟩
        rw [show p.length - j = (p.drop j).length by rw [List.length_drop]]
        refine sClone_own h (fun H h => by
          have := (h.sl_rd 1 rfl).subB (k := j) (c := c1) (by simpa using hnc)
          rwa [← List.map_drop] at this) (by rw [List.length_drop]; omega) fun a5 c5 H5 h => ⟨_, _, _, rfl, ?_⟩
        refine h.st 3 rfl rfl fun H6 h => ⟨_, _, _, _, h.rds 3 rfl rfl, ?_⟩
        refine k1 ⟨kind, ⟨a5, c5, p.drop j⟩⟩ _ h3 ?_
        exact h.ordt [0] 4 (by decide) (by decide)
  · refine ⟨_, _, _, _, rfl, fun _ => ?_, fun hf => by simp [he] at hf⟩
    refine h.st 0 rfl rfl fun H3 h => ⟨_, _, _, _, h.rds 0 rfl rfl, k2 _ ?_ h.tl⟩
    unfold recM
    rw [ho, if_pos he]

theorem one_spec {a : Option Addr} {c : Nat} {bs : List Int} (h : SatL H F) (hF : ∀ H, SatL H F → rdS H a (bs.map U8)) (hb : isBytes bs) (hl : bs.length ≤ 1099511627776) (hc : bs.length ≤ c)
    (k1 : ∀ (r : Ry) (n : Nat) H', oneM bs = some (r.rc, n) → SatL H' (rowY r.y :: F) → K (.tuple #[.agg #[.int .i64 r.kind, encY r.y], .int .i64 n]) H')
    (k2 : ∀ H', oneM bs = none → SatL H' F → K (.tuple #[.agg #[.int .i64 0, .slice none 0 0], .int .i64 0]) H') :
    CallF Try.prog 76 #[.slice a bs.length c] H K := by
  refine R11_one.call ?_
  unfold R11_one.code
  refine h.al fun b H1 h => ?_
  refine RNew_spec h fun rb H2 h => ⟨_, rfl, ?_⟩
  refine RdUint_spec h (fun H h => hF H h.tl) hb hl hc (fun u n H3 hu h => ⟨_, rfl, nn_some ⟨_, h.rd 0 rfl _, fun _ => trivial, _, _, _, fun _ => h.rd 0 rfl _, fun hx => ?_, fun hx => ?_⟩⟩) fun e H3 hu he h => ⟨_, rfl, nn_some ⟨_, h.rd 0 rfl _, fun _ => trivial, _, _, _, fun _ => h.rd 0 rfl _, fun hx => ?_, fun hx => ?_⟩⟩
  · have hn := rdU_size hb hu
    rw [u64w (by omega) (by omega)] at hx
    have hlt : bs.length < n + u := by simp at hx; omega
    refine h.st 1 rfl rfl fun H5 h => ⟨_, _, _, _, h.rds 1 rfl rfl, k2 _ ?_ h.tl.tl⟩
    unfold oneM
    rw [hu]
    dsimp only
    rw [if_pos hlt]
  · have hn := rdU_size hb hu
    rw [u64w (by omega) (by omega)] at hx
    have hge : ¬ bs.length < n + u := by simp at hx; omega
    obtain ⟨t, ht⟩ : ∃ t, (bs.drop n).take u = t := ⟨_, rfl⟩
    have htl : t.length = u := by rw [← ht, List.length_take, List.length_drop]; omega
    have htb : isBytes t := by rw [← ht]; exact isBytes_take _ (isBytes_drop _ hb)
    have hone : oneM bs = (recM t).map fun r => (r, n + u) := by
      unfold oneM
      rw [hu]
      dsimp only
      rw [if_neg hge, ht]
    have hrt : ∀ H, SatL H F → rdS H (slB (slB a n c 1) 0 (c - n) 1) (t.map U8) := fun H h => by
      have := ((hF H h).subB (k := n) (c := c) (by simpa using hc)).take u
      rw [← List.map_drop, ← List.map_take, ht] at this
      exact this.sb0
    refine nn_some ⟨_, _, _, h.rd 0 rfl _, ⟨by omega, by omega, by omega⟩, ?_⟩
    rw [Int.toNat_natCast]
    rw [show (Value.slice (slB (slB a n c 1) 0 (c - n) 1) u (c - n)) = .slice (slB (slB a n c 1) 0 (c - n) 1) t.length (c - n) by rw [htl]]
    refine R07Open_spec h (fun H h => hrt H h.tl.tl) (by omega) (by omega) (fun a1 c1 p H4 ho h => ⟨_, _, _, _, rfl, (fun hf => by cases hf), fun _ => ?_⟩) fun e H4 he ho h => ⟨_, _, _, _, rfl, fun _ => ?_, fun hf => by simp [he] at hf⟩
    · have hpl : p.length ≤ t.length := by
        have := congrArg List.length (openM_ok ho)
        rw [sealB_len] at this
        omega
      have hpb : isBytes p := by have := openM_sub htb; rwa [ho] at this
      have hnc := h.sl_nc 0 rfl
      have hrm : recM t = match rdU 0 0 p with
        | .ok kind j => if 255 < kind ∨ 262144 < p.length - j then none else some ⟨kind, p.drop j⟩
        | _ => none := by
        unfold recM
        rw [ho, if_neg (by simp)]
        dsimp only
        cases rdU 0 0 p <;> rfl
      refine RNew_spec h fun sb H5 h => ⟨_, rfl, ?_⟩
      refine RdUint_spec h (fun H h => h.sl_rd 0 rfl) hpb (by omega) hnc (fun kind j H6 hk h => ⟨_, rfl, nn_some ⟨_, h.rd 0 rfl _, fun _ => trivial, _, _, _, fun _ => h.rd 0 rfl _, fun hx => ?_, fun hx => ?_⟩⟩) fun e H6 hk he h => ⟨_, rfl, nn_some ⟨_, h.rd 0 rfl _, fun _ => trivial, _, _, _, fun _ => h.rd 0 rfl _, fun hx => ?_, fun hx => ?_⟩⟩
      · rw [hk] at hrm
        refine h.st 3 rfl rfl fun H5 h => ⟨_, _, _, _, h.rds 3 rfl rfl, k2 _ ?_ h.tl.tl.tl.tl⟩
        rw [hone, hrm]
        dsimp only
        simp only [decide_true, Bool.not_true, Bool.false_or, Bool.or_eq_true, decide_eq_true_eq] at hx
        rw [if_pos (by omega)]
        rfl
      · rw [hk] at hrm
        have hkj := rdU_size hpb hk
        simp only [decide_true, Bool.not_true, Bool.false_or, Bool.or_eq_false_iff, decide_eq_false_iff_not] at hx
        dsimp only at hrm
        rw [if_neg (by omega)] at hrm
        refine nn_some ⟨_, _, _, h.rd 0 rfl _, nn_some ⟨_, _, _, h.rd 2 rfl _, ?_⟩⟩
        rw [show p.length - j = (p.drop j).length by rw [List.length_drop]]
        refine CopyBytes_own h (fun H h => by
          have := (h.sl_rd 1 rfl).subB (k := j) (c := c1) (by simpa using hnc)
          rwa [← List.map_drop] at this) (by rw [List.length_drop]; omega) fun a5 c5 H7 h => ⟨_, _, _, rfl, h.rd 3 rfl _, ?_⟩
        rw [w64 (x := (kind : Int)) (by omega) (by omega)]
        refine h.st 4 rfl rfl fun H8 h => ⟨h.rd 3 rfl _, _, _, _, _, h.rds 4 rfl rfl, ?_⟩
        have e1 : IntKind.i64.wrap ((IntKind.i64.wrap ((bs.length : Int) - ((bs.length - n : Nat) : Int))) + (IntKind.i64.wrap (u : Int))) = ((n + u : Nat) : Int) := by
          rw [w64 (x := (u : Int)) (by omega) (by omega), w64 (x := (bs.length : Int) - ((bs.length - n : Nat) : Int)) (by omega) (by omega), w64 (by omega) (by omega)]
          omega
        rw [e1]
        refine k1 ⟨kind, ⟨a5, c5, p.drop j⟩⟩ (n + u) _ ?_ ?_
        · rw [hone, hrm]; rfl
        · exact h.ordt [0] 5 (by decide) (by decide)
      · have hnone : recM t = none := by
          rw [hrm]
          cases hr : rdU 0 0 p with
          | ok x y => exact absurd hr (hk x y)
          | form => rfl
          | ended => rfl
        refine h.st 3 rfl rfl fun H5 h => ⟨_, _, _, _, h.rds 3 rfl rfl, k2 _ ?_ h.tl.tl.tl.tl⟩
        rw [hone, hnone]
        rfl
      · simp [he] at hx
    · refine h.st 1 rfl rfl fun H5 h => ⟨_, _, _, _, h.rds 1 rfl rfl, k2 _ ?_ h.tl.tl⟩
      rw [hone]
      unfold recM
      rw [ho, if_pos he]
      rfl
  · refine h.st 1 rfl rfl fun H5 h => ⟨_, _, _, _, h.rds 1 rfl rfl, k2 _ ?_ h.tl.tl⟩
    unfold oneM
    cases hr : rdU 0 0 bs with
    | ok x y => exact absurd hr (hu x y)
    | form => rfl
    | ended => rfl
  · simp [he] at hx
end
end Go.Proofs.Ytomdcdfcdeaabaa
