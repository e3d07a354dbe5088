/-
  Scan by the document, records written, lists of records held against one another.
-/
import Derived.Test.YtomdcdfcdeaabaaRJ
set_option linter.unusedVariables false
set_option linter.unusedSimpArgs false
namespace Go.Proofs.Ytomdcdfcdeaabaa
open Go Go.Nm Go.Proofs
def bytesE (kind : Int) (n : Nat) : Int := if kind < 0 ∨ 255 < kind then 11 else if 262144 < n then 17 else 0
theorem bytesE_ok {kind : Int} {bs : List Int} (hb : isBytes bs) (h : bytesE kind bs.length = 0) : (⟨kind, bs⟩ : Rc).ok := by
  unfold bytesE at h
  split at h
  · cases h
  · split at h
    · cases h
    · exact ⟨by dsimp only; omega, by dsimp only; omega, by dsimp only; omega, hb⟩
theorem bytesE_of {r : Rc} (h : r.ok) : bytesE r.kind r.data.length = 0 := by
  have := h.k0
  have := h.k1
  have := h.len
  unfold bytesE
  rw [if_neg (by omega), if_neg (by omega)]
section
variable {F L : List Assn} {H : Heap} {K : Value → Heap → Prop}
theorem slA_is {e sz n c : Nat} {a : Option Addr} {cs : List Value} (h : SatL H (slA e sz a n c cs :: F)) : a = none ∨ ∃ b o, a = some ⟨b, o, none⟩ := by
  rcases (slA_open (F := star F) h).2 with ⟨h2, _⟩ | ⟨b, pre, post, e', fr, h2, _⟩
  · exact .inl h2
  · exact .inr ⟨_, _, h2⟩

theorem rscan_spec {a : Option Addr} {c : Nat} {bs : List Int} (h : SatL H F) (hF : ∀ H, SatL H F → rdS H a (bs.map U8)) (hb : isBytes bs) (hl : bs.length ≤ 1099511627776) (hc : bs.length ≤ c)
    (k : ∀ (rs : List Ry) a' c' H', rs.map Ry.rc = (scanM bs).1 → SatL H' (slA 80 2 a' rs.length c' (flat encR rs) :: rowsR rs :: F) → K (.tuple #[.slice a' rs.length c', .int .i64 (scanM bs).2]) H') :
    CallF Try.prog 33 #[.slice a bs.length c] H K := by
  refine R11_Scan.call ?_
  unfold R11_Scan.code
  refine h.al fun b H1 h => ?_
  have fin : ∀ la lc (rs : List Ry) (w : Nat) t H', oneM t = none → scanM bs = (rs.map Ry.rc ++ (scanM t).1, w + (scanM t).2) → SatL H' (slA 80 2 la rs.length lc (flat encR rs) :: rowsR rs :: F) → K (.tuple #[.slice la rs.length lc, .int .i64 w]) H' := by
    intro la lc rs w t H' hn he h'
    rw [scanM_none hn, List.append_nil, Nat.add_zero] at he
    have := k rs la lc H' (by rw [he]) h'
    rwa [he] at this
  refine ⟨fun la ln lc used H' => ∃ (rs : List Ry) (w : Nat), ln = rs.length ∧ used = w ∧ w ≤ bs.length ∧ rs.length ≤ w ∧ scanM bs = (rs.map Ry.rc ++ (scanM (bs.drop w)).1, w + (scanM (bs.drop w)).2) ∧
      SatL H' (slA 80 2 la rs.length lc (flat encR rs) :: rowsR rs :: F), fun _ _ _ used _ => bs.length - used.toNat, ⟨[], 0, rfl, rfl, Nat.zero_le _, Nat.zero_le _, by simp, ?_⟩, ?_⟩
  · have h1 := SatL.sl_pt (cs := []) h 2 0 rfl
    have h2 : SatL H1 (rowsR [] :: slA 80 2 (some ⟨b, 0, none⟩) 0 0 [] :: F) := satL_emp.2 h1
    exact h2.ordt [1, 0] 2 (by decide) (by decide)
  rintro la ln lc used H2 ⟨rs, w, rfl, rfl, hw, hrw, he, h⟩
  have hdb : isBytes (bs.drop w) := isBytes_drop _ hb
  unfold R11_Scan.l1
  refine ⟨fun hx => ?_, fun hx => ?_⟩
  · have hlt : w < bs.length := by simpa using hx
    refine ⟨⟨by omega, by omega, by omega⟩, ?_⟩
    rw [Int.toNat_natCast, show bs.length - w = (bs.drop w).length by rw [List.length_drop]]
    refine one_spec h (fun H h => by
      have := (hF H h.tl.tl).subB (k := w) (c := c) (by simpa using hc)
      rwa [← List.map_drop] at this) hdb (by rw [List.length_drop]; omega) (by rw [List.length_drop]; omega) (fun r n H3 ho h => ⟨_, _, _, _, _, rfl, ?_⟩) fun H3 ho h => ⟨_, _, _, _, _, rfl, ?_⟩
    · have ho2 := oneM_ok hdb ho
      refine h.al fun b6 H6 h => ?_
      refine h.st 0 rfl rfl fun H7 h => ⟨fun hf => by simp at hf; omega, fun _ => ⟨_, _, _, _, h.rds 0 rfl rfl, ?_⟩⟩
      rintro _ _ rfl rfl
      refine h.append1 sl57 2 rfl (by rfl) (by rfl) (by omega) (by omega) fun a8 c8 H8 h => ⟨_, _, _, rfl, ?_⟩
      rw [List.length_drop] at ho2
      have e1 : IntKind.i64.wrap ((w : Int) + (n : Int)) = ((w + n : Nat) : Int) := by
        rw [w64 (by omega) (by omega)]
        omega
      rw [e1]
      refine ⟨⟨rs ++ [r], w + n, by simp, rfl, by omega, by rw [List.length_append, List.length_singleton]; omega, ?_, ?_⟩, by simp only [Int.toNat_natCast]; omega⟩
      · rw [he, scanM_some hdb ho, List.drop_drop]
        simp [Nat.add_assoc]
      · rw [rowsR_append, rowsR_one, flat_append, flat_one, List.length_append, List.length_singleton]
        have h4 := h.ordt [3, 1, 2] 4 (by decide) (by decide)
        have h5 : SatL H8 (_ :: slA 80 2 a8 (rs.length + 1) c8 (flat encR rs ++ encR r) :: F) := satL_sep.2 (h4.ordt [0, 1, 2] 3 (by decide) (by decide))
        exact h5.ordt [1, 0] 2 (by decide) (by decide)
    · refine h.al fun b6 H6 h => ?_
      refine h.st 0 rfl rfl fun H7 h => ⟨fun _ => ?_, (fun hf => by cases hf)⟩
      exact fin _ _ _ _ _ _ ho he (h.ordt [1, 2] 3 (by decide) (by decide))
  · have hd : bs.drop w = [] := by
      simp at hx
      exact List.drop_eq_nil_of_le (by omega)
    exact fin _ _ _ _ _ _ (by rw [hd]; rfl) he h

theorem Bytes_spec {kind : Int} {a : Option Addr} {c : Nat} {bs : List Int} (h : SatL H F) (hF : ∀ H, SatL H F → rdS H a (bs.map U8)) (hA : a = none ∨ ∃ b o, a = some ⟨b, o, none⟩) (hb : isBytes bs) (hl : bs.length ≤ 1099511627776)
    (k1 : ∀ a' c' H', bytesE kind bs.length = 0 → SatL H' (slA 5 1 a' (recB ⟨kind, bs⟩).length c' ((recB ⟨kind, bs⟩).map U8) :: F) → K (.tuple #[.slice a' (recB ⟨kind, bs⟩).length c', .int .i64 0]) H')
    (k2 : ∀ H', bytesE kind bs.length ≠ 0 → SatL H' F → K (.tuple #[.slice none 0 0, .int .i64 (bytesE kind bs.length)]) H') :
    CallF Try.prog 29 #[.agg #[.int .i64 kind, .slice a bs.length c]] H K := by
  refine reel_Bytes.call ?_
  unfold reel_Bytes.code
  refine h.al fun b H1 h => ⟨_, h.rd 0 rfl _, _, fun _ => h.rd 0 rfl _, fun hx => ?_, fun hx => ?_⟩
  · have hk : kind < 0 ∨ 255 < kind := by simpa using hx
    have e : bytesE kind bs.length = 11 := by unfold bytesE; rw [if_pos hk]
    have := k2 _ (by rw [e]; decide) h.tl
    rwa [e] at this
  · have hk : ¬ (kind < 0 ∨ 255 < kind) := by simp at hx; omega
    refine ⟨_, _, _, h.rd 0 rfl _, fun hx2 => ?_, fun hx2 => ?_⟩
    · have hlt : 262144 < bs.length := by simp at hx2; omega
      have e : bytesE kind bs.length = 17 := by unfold bytesE; rw [if_neg hk, if_pos hlt]
      have := k2 _ (by rw [e]; decide) h.tl
      rwa [e] at this
    · have hge : ¬ 262144 < bs.length := by simp at hx2; omega
      have e : bytesE kind bs.length = 0 := by unfold bytesE; rw [if_neg hk, if_neg hge]
      have hok := bytesE_ok hb e
      have hbl := bodyB_len hok
      obtain ⟨u, hu⟩ : ∃ u : Nat, kind = u := ⟨kind.toNat, by omega⟩
      refine ⟨_, h.rd 0 rfl _, _, _, _, h.rd 0 rfl _, ?_⟩
      rw [u64w (x := kind) (by omega) (by omega)]
      refine h.al fun b1 H2 h => ⟨h.rd 1 rfl _, ?_⟩
      refine Uints1_spec (u := u) h (fun H h => by rw [← hu]; exact h.ce_rd 0 rfl) (by omega) fun a3 c3 H3 h => ⟨_, _, _, rfl, h.rd 2 rfl _, ?_⟩
      refine h.al fun b2 H4 h => ?_
      have hA3 := slA_is h.tl
      have efl : ([⟨a3, c3, uintB u⟩, ⟨a, c, bs⟩] : List Fy).flatMap Fy.bs = uintB u ++ bs := by simp
      have ul := uintB_len2 (u := u) (by omega)
      have up := uintB_pos u
      refine crcSeal_spec (parts := [⟨a3, c3, uintB u⟩, ⟨a, c, bs⟩]) h (fun H h => h.ce_rd 0 rfl) (fun H h y hy => ?_) (fun y hy => ?_) (fun y hy => ?_) (Nat.le_refl _) (Nat.le_refl _) (Nat.le_of_ble_eq_true rfl) (by rw [efl, List.length_append]; omega) (by rw [efl, List.length_append]; omega) fun a5 c5 H5 h => ⟨_, _, _, rfl, ?_⟩
      · simp only [List.mem_cons, List.not_mem_nil, or_false] at hy
        rcases hy with rfl | rfl
        · exact h.sl_rd 1 rfl
        · exact hF _ h.tl.tl.tl.tl
      · simp only [List.mem_cons, List.not_mem_nil, or_false] at hy
        rcases hy with rfl | rfl
        · exact hA3
        · exact hA
      · simp only [List.mem_cons, List.not_mem_nil, or_false] at hy
        rcases hy with rfl | rfl
        · exact uintB_bytes _
        · exact hb
      · rw [efl] at h ⊢
        have eb : sealB (uintB u ++ bs) = bodyB ⟨kind, bs⟩ := by unfold bodyB; dsimp only; rw [hu, Int.toNat_natCast]
        rw [eb] at h ⊢
        rw [u64w (x := (((bodyB ⟨kind, bs⟩).length : Nat) : Int)) (by omega) (by omega)]
        refine h.al fun b3 H6 h => ?_
        refine Uints1_spec (u := (bodyB ⟨kind, bs⟩).length) h (fun H h => h.ce_rd 0 rfl) (by omega) fun a7 c7 H7 h => ⟨_, _, _, rfl, ?_⟩
        have hll := uintB_len3 hbl.1
        refine SatL.append (m := (bodyB ⟨kind, bs⟩).length) (ws := (bodyB ⟨kind, bs⟩).map U8) sl32 h 0 rfl (h.sl_rd 2 rfl) (by simp) (plain_map (fun _ => rfl) _) (by omega) (by omega) fun a8 c8 H8 h => ⟨_, _, _, rfl, ?_⟩
        have hk1 := k1 a8 c8 H8 e
        unfold recB at hk1
        rw [List.length_append, List.map_append] at hk1
        exact hk1 (h.ordt [0] 7 (by decide) (by decide))

theorem RBytes_spec {kind : Int} {a : Option Addr} {c : Nat} {bs : List Int} (h : SatL H F) (hF : ∀ H, SatL H F → rdS H a (bs.map U8)) (hb : isBytes bs) (hl : bs.length ≤ 1099511627776)
    (k1 : ∀ a' c' H', bytesE kind bs.length = 0 → SatL H' (slA 5 1 a' (recB ⟨kind, bs⟩).length c' ((recB ⟨kind, bs⟩).map U8) :: F) → K (.tuple #[.slice a' (recB ⟨kind, bs⟩).length c', .int .i64 0]) H')
    (k2 : ∀ H', bytesE kind bs.length ≠ 0 → SatL H' F → K (.tuple #[.slice none 0 0, .int .i64 (bytesE kind bs.length)]) H') :
    CallF Try.prog 31 #[.int .i64 kind, .slice a bs.length c] H K := by
  refine R11_Bytes.call ?_
  unfold R11_Bytes.code
  refine ⟨fun hx => ?_, fun hx => ?_⟩
  · have hk : kind < 0 ∨ 255 < kind := by simpa using hx
    have e : bytesE kind bs.length = 11 := by unfold bytesE; rw [if_pos hk]
    have := k2 _ (by rw [e]; decide) h
    rwa [e] at this
  · have hk : ¬ (kind < 0 ∨ 255 < kind) := by simp at hx; omega
    refine ⟨fun hx2 => ?_, fun hx2 => ?_⟩
    · have hlt : 262144 < bs.length := by simp at hx2; omega
      have e : bytesE kind bs.length = 17 := by unfold bytesE; rw [if_neg hk, if_pos hlt]
      have := k2 _ (by rw [e]; decide) h
      rwa [e] at this
    · have hge : ¬ 262144 < bs.length := by simp at hx2; omega
      have e : bytesE kind bs.length = 0 := by unfold bytesE; rw [if_neg hk, if_neg hge]
      have hok := bytesE_ok hb e
      have hbl := bodyB_len hok
      obtain ⟨u, hu⟩ : ∃ u : Nat, kind = u := ⟨kind.toNat, by omega⟩
      have ul := uintB_len2 (u := u) (by omega)
      have eb : sealB (uintB u ++ bs) = bodyB ⟨kind, bs⟩ := by unfold bodyB; dsimp only; rw [hu, Int.toNat_natCast]
      rw [u64w (x := kind) (by omega) (by omega)]
      have hcall := fun {K : Value → Heap → Prop} (k : ∀ a' c' H', SatL H' (slA 5 1 a' (uintB u).length c' ((uintB u).map U8) :: F) → K (.slice a' (uintB u).length c') H') => R06Uint_spec (u := u) h (by omega) k
      rw [← hu] at hcall
      refine hcall fun a2 c2 H2 h => ⟨_, _, _, rfl, ?_⟩
      refine SatL.append (m := bs.length) (ws := bs.map U8) sl32 h 0 rfl (hF _ h.tl) (by simp) (plain_map (fun _ => rfl) _) (by omega) (by omega) fun a3 c3 H3 h => ⟨_, _, _, rfl, ?_⟩
      have h3 : SatL H3 (slA 5 1 a3 (uintB u ++ bs).length c3 ((uintB u ++ bs).map U8) :: F) := by rw [List.length_append, List.map_append]; exact h
      rw [← List.length_append]
      refine R07Seal_spec h3 (fun H h => h.sl_rd 0 rfl) (by rw [List.length_append]; omega) fun a4 c4 H4 h => ⟨_, _, _, rfl, ?_⟩
      rw [eb] at h ⊢
      rw [u64w (x := (((bodyB ⟨kind, bs⟩).length : Nat) : Int)) (by omega) (by omega)]
      refine R06Uint_spec (u := (bodyB ⟨kind, bs⟩).length) h (by omega) fun a7 c7 H7 h => ⟨_, _, _, rfl, ?_⟩
      have hll := uintB_len3 hbl.1
      refine SatL.append (m := (bodyB ⟨kind, bs⟩).length) (ws := (bodyB ⟨kind, bs⟩).map U8) sl32 h 0 rfl (h.sl_rd 1 rfl) (by simp) (plain_map (fun _ => rfl) _) (by omega) (by omega) fun a8 c8 H8 h => ⟨_, _, _, rfl, ?_⟩
      have hk1 := k1 a8 c8 H8 e
      unfold recB at hk1
      rw [List.length_append, List.map_append] at hk1
      exact hk1 (h.ordt [0] 3 (by decide) (by decide))

theorem of_spec {a : Option Addr} {c : Nat} {rs : List Ry} (h : SatL H F) (hF : ∀ H, SatL H F → rdS H a (flat encR rs)) (hl : rs.length ≤ 1099511627776)
    (k : ∀ a' c' H', SatL H' (slA 80 2 a' rs.length c' (flat encR rs) :: F) → K (.slice a' rs.length c') H') :
    CallF Try.prog 35 #[.slice a rs.length c] H K := by
  refine of.call ?_
  unfold of.code
  refine h.al fun b H1 h => ?_
  have h1 := SatL.sl_pt (cs := []) h 2 0 rfl
  refine ⟨fun oa on oc i H' => ∃ j : Nat, i = j ∧ j ≤ rs.length ∧ on = j ∧ SatL H' (slA 80 2 oa j oc (flat encR (rs.take j)) :: F), fun _ _ _ i _ => rs.length - i.toNat, ⟨0, rfl, Nat.zero_le _, rfl, h1⟩, ?_⟩
  rintro oa on oc i H2 ⟨j, rfl, hj, rfl, h⟩
  unfold of.l1
  refine ⟨fun hx => ?_, fun hx => ?_⟩
  · have hlt : on < rs.length := by simpa using hx
    have hr := hF _ h.tl
    refine ⟨⟨by omega, by omega⟩, _, _, hr.some encR_len (by omega) hlt, _, hr.el0 encR_len hlt rfl, ⟨by omega, by omega⟩, _, _, hr.some encR_len (by omega) hlt, _, _, _, hr.el encR_len hlt 1 rfl, ?_⟩
    rintro _ _ rfl rfl
    refine h.append1 sl57 0 rfl (by rfl) (by rfl) (by omega) (by omega) fun a8 c8 H8 h => ⟨_, _, _, rfl, ?_⟩
    rw [w64 (x := (on : Int) + 1) (by omega) (by omega)]
    refine ⟨⟨on + 1, rfl, hlt, rfl, ?_⟩, by simp only [Int.toNat_natCast]; omega⟩
    rw [List.take_succ_eq_append_getElem hlt, flat_append, flat_one]
    exact h
  · have hj2 : on = rs.length := by simp at hx; omega
    rw [hj2, List.take_length] at h
    rw [hj2]
    exact k _ _ _ h

theorem Same_spec {a b : Option Addr} {c d : Nat} {rs qs : List Ry} (ha : rdS H a (flat encR rs)) (hb : rdS H b (flat encR qs)) (hra : ∀ r ∈ rs, rdS H r.y.a (r.y.bs.map U8)) (hrb : ∀ r ∈ qs, rdS H r.y.a (r.y.bs.map U8)) (hl : rs.length ≤ 1099511627776)
    (hal : ∀ r ∈ rs, r.y.bs.length ≤ 1099511627776) : CallQ Try.prog 34 #[.slice a rs.length c, .slice b qs.length d] H (.bool (decide (rs.map Ry.rc = qs.map Ry.rc))) := by
  unfold CallQ
  refine R11_Same.call ?_
  unfold R11_Same.code
  refine ⟨fun hx => ?_, fun hx => ?_⟩
  · have hne : rs.length ≠ qs.length := by simp at hx; omega
    rw [decide_eq_false]
    · exact ⟨rfl, rfl⟩
    · intro e
      have := congrArg List.length e
      simp at this
      exact hne this
  · have hlen : rs.length = qs.length := by simp at hx; omega
    refine ⟨fun i H' => H' = H ∧ ∃ j : Nat, i = j ∧ j ≤ rs.length ∧ (rs.take j).map Ry.rc = (qs.take j).map Ry.rc, fun i _ => rs.length - i.toNat, ⟨rfl, 0, rfl, Nat.zero_le _, rfl⟩, ?_⟩
    rintro i H' ⟨rfl, j, rfl, hj, he⟩
    unfold R11_Same.l1
    refine ⟨fun hx => ?_, fun hx => ?_⟩
    · have hlt : j < rs.length := by simpa using hx
      have hlt2 : j < qs.length := by omega
      have q := SameBytes_spec (c := rs[j].y.c) (d := qs[j].y.c) (hra _ (List.getElem_mem hlt)) (hrb _ (List.getElem_mem hlt2)) (hal _ (List.getElem_mem hlt))
      have hno : ∀ (hd : ¬ (rs[j].kind = qs[j].kind ∧ rs[j].y.bs = qs[j].y.bs)), ¬ rs.map Ry.rc = qs.map Ry.rc := fun hd e => by
        apply hd
        have e1 : rs[j].rc = qs[j].rc := by
          have := congrArg (fun l : List Rc => l[j]?) e
          simpa [hlt, hlt2] using this
        exact ⟨congrArg Rc.kind e1, congrArg Rc.data e1⟩
      refine ⟨⟨by omega, by omega⟩, _, _, ha.some encR_len (by omega) hlt, _, ha.el0 encR_len hlt rfl, ⟨by omega, by omega⟩, _, _, hb.some encR_len (by omega) hlt2, _, hb.el0 encR_len hlt2 rfl,
        fun _ => ⟨by omega, by omega⟩, _, _, fun _ => ha.some encR_len (by omega) hlt, _, _, _, fun _ => ha.el encR_len hlt 1 rfl, fun _ => ⟨by omega, by omega⟩, _, _, fun _ => hb.some encR_len (by omega) hlt2, _, _, _, fun _ => hb.el encR_len hlt2 1 rfl, _, fun _ => q, fun hc => ?_, fun hc => ?_⟩
      · rw [decide_eq_false]
        · exact ⟨rfl, rfl⟩
        · refine hno fun hd => ?_
          simp [hd.1, hd.2] at hc
      · have hd : rs[j].kind = qs[j].kind ∧ rs[j].y.bs = qs[j].y.bs := by simpa using hc
        rw [w64 (x := (j : Int) + 1) (by omega) (by omega)]
        refine ⟨⟨rfl, j + 1, rfl, hlt, ?_⟩, by simp only [Int.toNat_natCast]; omega⟩
        rw [List.take_succ_eq_append_getElem hlt, List.take_succ_eq_append_getElem hlt2, List.map_append, List.map_append, he]
        simp [Ry.rc, hd.1, hd.2]
    · have hj2 : j = rs.length := by simp at hx; omega
      subst hj2
      rw [List.take_length, List.take_of_length_le (by omega)] at he
      rw [decide_eq_true he]
      exact ⟨rfl, rfl⟩
end
end Go.Proofs.Ytomdcdfcdeaabaa
