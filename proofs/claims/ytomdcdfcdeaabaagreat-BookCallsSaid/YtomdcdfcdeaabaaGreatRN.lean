/-
  Scan by the document, records written, lists of records held against one another. A reel's state, plainly; appending. A reel: the document's appending, both sides' dropping and opening. A reel is opened: both sides.
-/
import Derived.Test.YtomdcdfcdeaabaaGreatRJ
set_option linter.unusedVariables false
set_option linter.unusedSimpArgs false
namespace Go.Proofs.YtomdcdfcdeaabaaGreat
open Go Go.Nm Go.Proofs
def bytesE (kind : Int) (n : Nat) : Int := if kind < 0 ∨ 255 < kind then 11 else if 262144 < n then 17 else 0
theorem bytesE_ok {kind : Int} {bs : List Int} (hb : isBytes bs) (h : bytesE kind bs.length = 0) : (⟨kind, bs⟩ : Rc).ok := by
  unfold bytesE at h
  split at h
  · cases h
  · split at h
    · cases h
    · exact ⟨by dsimp only; omega, by dsimp only; omega, by dsimp only; omega, hb⟩
theorem bytesE_of {r : Rc} (h : r.ok) : bytesE r.kind r.data.length = 0 := by
  have := h.k0
  have := h.k1
  have := h.len
  unfold bytesE
  rw [if_neg (by omega), if_neg (by omega)]
section
variable {F L : List Assn} {H : Heap} {K : Value → Heap → Prop}
theorem slA_is {e sz n c : Nat} {a : Option Addr} {cs : List Value} (h : SatL H (slA e sz a n c cs :: F)) : a = none ∨ ∃ b o, a = some ⟨b, o, none⟩ := by
  rcases (slA_open (F := star F) h).2 with ⟨h2, _⟩ | ⟨b, pre, post, e', fr, h2, _⟩
  · exact .inl h2
  · exact .inr ⟨_, _, h2⟩

theorem rscan_spec {a : Option Addr} {c : Nat} {bs : List Int} (h : SatL H F) (hF : ∀ H, SatL H F → rdS H a (bs.map U8)) (hb : isBytes bs) (hl : bs.length ≤ 1099511627776) (hc : bs.length ≤ c)
    (k : ∀ (rs : List Ry) a' c' H', rs.map Ry.rc = (scanM bs).1 → SatL H' (slA 124 2 a' rs.length c' (flat encR rs) :: rowsR rs :: F) → K (.tuple #[.slice a' rs.length c', .int .i64 (scanM bs).2]) H') :
    CallF Tryz.prog 63 #[.slice a bs.length c] H K := by
  refine R11_Scan.call ?_
  unfold R11_Scan.code
  refine h.al fun b H1 h => ?_
  have fin : ∀ la lc (rs : List Ry) (w : Nat) t H', oneM t = none → scanM bs = (rs.map Ry.rc ++ (scanM t).1, w + (scanM t).2) → SatL H' (slA 124 2 la rs.length lc (flat encR rs) :: rowsR rs :: F) → K (.tuple #[.slice la rs.length lc, .int .i64 w]) H' := by
    intro la lc rs w t H' hn he h'
    rw [scanM_none hn, List.append_nil, Nat.add_zero] at he
    have := k rs la lc H' (by rw [he]) h'
    rwa [he] at this
  refine ⟨fun la ln lc used H' => ∃ (rs : List Ry) (w : Nat), ln = rs.length ∧ used = w ∧ w ≤ bs.length ∧ rs.length ≤ w ∧ scanM bs = (rs.map Ry.rc ++ (scanM (bs.drop w)).1, w + (scanM (bs.drop w)).2) ∧
      SatL H' (slA 124 2 la rs.length lc (flat encR rs) :: rowsR rs :: F), fun _ _ _ used _ => bs.length - used.toNat, ⟨[], 0, rfl, rfl, Nat.zero_le _, Nat.zero_le _, by simp, ?_⟩, ?_⟩
  · have h1 := SatL.sl_pt (cs := []) h 2 0 rfl
    have h2 : SatL H1 (rowsR [] :: slA 124 2 (some ⟨b, 0, none⟩) 0 0 [] :: F) := satL_emp.2 h1
    exact h2.ordt [1, 0] 2 (by decide) (by decide)
  rintro la ln lc used H2 ⟨rs, w, rfl, rfl, hw, hrw, he, h⟩
  have hdb : isBytes (bs.drop w) := isBytes_drop _ hb
  unfold R11_Scan.l1
  refine ⟨fun hx => ?_, fun hx => ?_⟩
  · have hlt : w < bs.length := by simpa using hx
    refine ⟨⟨by omega, by omega, by omega⟩, ?_⟩
    rw [Int.toNat_natCast, show bs.length - w = (bs.drop w).length by rw [List.length_drop]]
    refine one_spec h (fun H h => by
      have := (hF H h.tl.tl).subB (k := w) (c := c) (by simpa using hc)
      rwa [← List.map_drop] at this) hdb (by rw [List.length_drop]; omega) (by rw [List.length_drop]; omega) (fun r n H3 ho h => ⟨_, _, _, _, _, rfl, ?_⟩) fun H3 ho h => ⟨_, _, _, _, _, rfl, ?_⟩
    · have ho2 := oneM_ok hdb ho
      refine h.al fun b6 H6 h => ?_
      refine h.st 0 rfl rfl fun H7 h => ⟨fun hf => by simp at hf; omega, fun _ => ⟨_, _, _, _, h.rds 0 rfl rfl, ?_⟩⟩
      rintro _ _ rfl rfl
      refine h.append1 sl57 2 rfl (by rfl) (by rfl) (by omega) (by omega) fun a8 c8 H8 h => ⟨_, _, _, rfl, ?_⟩
      rw [List.length_drop] at ho2
      have e1 : IntKind.i64.wrap ((w : Int) + (n : Int)) = ((w + n : Nat) : Int) := by
        rw [w64 (by omega) (by omega)]
        omega
      rw [e1]
      refine ⟨⟨rs ++ [r], w + n, by simp, rfl, by omega, by rw [List.length_append, List.length_singleton]; omega, ?_, ?_⟩, by simp only [Int.toNat_natCast]; omega⟩
      · rw [he, scanM_some hdb ho, List.drop_drop]
        simp [Nat.add_assoc]
      · rw [rowsR_append, rowsR_one, flat_append, flat_one, List.length_append, List.length_singleton]
        have h4 := h.ordt [3, 1, 2] 4 (by decide) (by decide)
        have h5 : SatL H8 (_ :: slA 124 2 a8 (rs.length + 1) c8 (flat encR rs ++ encR r) :: F) := satL_sep.2 (h4.ordt [0, 1, 2] 3 (by decide) (by decide))
        exact h5.ordt [1, 0] 2 (by decide) (by decide)
    · refine h.al fun b6 H6 h => ?_
      refine h.st 0 rfl rfl fun H7 h => ⟨fun _ => ?_, (fun hf => by cases hf)⟩
      exact fin _ _ _ _ _ _ ho he (h.ordt [1, 2] 3 (by decide) (by decide))
  · have hd : bs.drop w = [] := by
      simp at hx
      exact List.drop_eq_nil_of_le (by omega)
    exact fin _ _ _ _ _ _ (by rw [hd]; rfl) he h

theorem Bytes_spec {kind : Int} {a : Option Addr} {c : Nat} {bs : List Int} (h : SatL H F) (hF : ∀ H, SatL H F → rdS H a (bs.map U8)) (hA : a = none ∨ ∃ b o, a = some ⟨b, o, none⟩) (hb : isBytes bs) (hl : bs.length ≤ 1099511627776)
    (k1 : ∀ a' c' H', bytesE kind bs.length = 0 → SatL H' (slA 5 1 a' (recB ⟨kind, bs⟩).length c' ((recB ⟨kind, bs⟩).map U8) :: F) → K (.tuple #[.slice a' (recB ⟨kind, bs⟩).length c', .int .i64 0]) H')
    (k2 : ∀ H', bytesE kind bs.length ≠ 0 → SatL H' F → K (.tuple #[.slice none 0 0, .int .i64 (bytesE kind bs.length)]) H') :
    CallF Tryz.prog 54 #[.agg #[.int .i64 kind, .slice a bs.length c]] H K := by
  refine reel_Bytes.call ?_
  unfold reel_Bytes.code
  refine h.al fun b H1 h => ⟨_, h.rd 0 rfl _, _, fun _ => h.rd 0 rfl _, fun hx => ?_, fun hx => ?_⟩
  · have hk : kind < 0 ∨ 255 < kind := by simpa using hx
    have e : bytesE kind bs.length = 11 := by unfold bytesE; rw [if_pos hk]
    have := k2 _ (by rw [e]; decide) h.tl
    rwa [e] at this
  · have hk : ¬ (kind < 0 ∨ 255 < kind) := by simp at hx; omega
    refine ⟨_, _, _, h.rd 0 rfl _, fun hx2 => ?_, fun hx2 => ?_⟩
    · have hlt : 262144 < bs.length := by simp at hx2; omega
      have e : bytesE kind bs.length = 17 := by unfold bytesE; rw [if_neg hk, if_pos hlt]
      have := k2 _ (by rw [e]; decide) h.tl
      rwa [e] at this
    · have hge : ¬ 262144 < bs.length := by simp at hx2; omega
      have e : bytesE kind bs.length = 0 := by unfold bytesE; rw [if_neg hk, if_neg hge]
      have hok := bytesE_ok hb e
      have hbl := bodyB_len hok
      obtain ⟨u, hu⟩ : ∃ u : Nat, kind = u := ⟨kind.toNat, by omega⟩
      refine ⟨_, h.rd 0 rfl _, _, _, _, h.rd 0 rfl _, ?_⟩
      rw [u64w (x := kind) (by omega) (by omega)]
      refine h.al fun b1 H2 h => ⟨h.rd 1 rfl _, ?_⟩
      refine Uints1_spec (u := u) h (fun H h => by rw [← hu]; exact h.ce_rd 0 rfl) (by omega) fun a3 c3 H3 h => ⟨_, _, _, rfl, h.rd 2 rfl _, ?_⟩
      refine h.al fun b2 H4 h => ?_
      have hA3 := slA_is h.tl
      have efl : ([⟨a3, c3, uintB u⟩, ⟨a, c, bs⟩] : List Fy).flatMap Fy.bs = uintB u ++ bs := by simp
      have ul := uintB_len2 (u := u) (by omega)
      have up := uintB_pos u
      refine crcSeal_spec (parts := [⟨a3, c3, uintB u⟩, ⟨a, c, bs⟩]) h (fun H h => h.ce_rd 0 rfl) (fun H h y hy => ?_) (fun y hy => ?_) (fun y hy => ?_) (Nat.le_refl _) (Nat.le_refl _) (Nat.le_of_ble_eq_true rfl) (by rw [efl, List.length_append]; omega) (by rw [efl, List.length_append]; omega) fun a5 c5 H5 h => ⟨_, _, _, rfl, ?_⟩
      · simp only [List.mem_cons, List.not_mem_nil, or_false] at hy
        rcases hy with rfl | rfl
        · exact h.sl_rd 1 rfl
        · exact hF _ h.tl.tl.tl.tl
      · simp only [List.mem_cons, List.not_mem_nil, or_false] at hy
        rcases hy with rfl | rfl
        · exact hA3
        · exact hA
      · simp only [List.mem_cons, List.not_mem_nil, or_false] at hy
        rcases hy with rfl | rfl
        · exact uintB_bytes _
        · exact hb
      · rw [efl] at h ⊢
        have eb : sealB (uintB u ++ bs) = bodyB ⟨kind, bs⟩ := by unfold bodyB; dsimp only; rw [hu, Int.toNat_natCast]
        rw [eb] at h ⊢
        rw [u64w (x := (((bodyB ⟨kind, bs⟩).length : Nat) : Int)) (by omega) (by omega)]
        refine h.al fun b3 H6 h => ?_
        refine Uints1_spec (u := (bodyB ⟨kind, bs⟩).length) h (fun H h => h.ce_rd 0 rfl) (by omega) fun a7 c7 H7 h => ⟨_, _, _, rfl, ?_⟩
        have hll := uintB_len3 hbl.1
        refine SatL.append (m := (bodyB ⟨kind, bs⟩).length) (ws := (bodyB ⟨kind, bs⟩).map U8) sl32 h 0 rfl (h.sl_rd 2 rfl) (by simp) (plain_map (fun _ => rfl) _) (by omega) (by omega) fun a8 c8 H8 h => ⟨_, _, _, rfl, ?_⟩
        have hk1 := k1 a8 c8 H8 e
        unfold recB at hk1
        rw [List.length_append, List.map_append] at hk1
        exact hk1 (h.ordt [0] 7 (by decide) (by decide))

theorem RBytes_spec {kind : Int} {a : Option Addr} {c : Nat} {bs : List Int} (h : SatL H F) (hF : ∀ H, SatL H F → rdS H a (bs.map U8)) (hb : isBytes bs) (hl : bs.length ≤ 1099511627776)
    (k1 : ∀ a' c' H', bytesE kind bs.length = 0 → SatL H' (slA 5 1 a' (recB ⟨kind, bs⟩).length c' ((recB ⟨kind, bs⟩).map U8) :: F) → K (.tuple #[.slice a' (recB ⟨kind, bs⟩).length c', .int .i64 0]) H')
    (k2 : ∀ H', bytesE kind bs.length ≠ 0 → SatL H' F → K (.tuple #[.slice none 0 0, .int .i64 (bytesE kind bs.length)]) H') :
    CallF Tryz.prog 64 #[.int .i64 kind, .slice a bs.length c] H K := by
  refine R11_Bytes.call ?_
  unfold R11_Bytes.code
  refine ⟨fun hx => ?_, fun hx => ?_⟩
  · have hk : kind < 0 ∨ 255 < kind := by simpa using hx
    have e : bytesE kind bs.length = 11 := by unfold bytesE; rw [if_pos hk]
    have := k2 _ (by rw [e]; decide) h
    rwa [e] at this
  · have hk : ¬ (kind < 0 ∨ 255 < kind) := by simp at hx; omega
    refine ⟨fun hx2 => ?_, fun hx2 => ?_⟩
    · have hlt : 262144 < bs.length := by simp at hx2; omega
      have e : bytesE kind bs.length = 17 := by unfold bytesE; rw [if_neg hk, if_pos hlt]
      have := k2 _ (by rw [e]; decide) h
      rwa [e] at this
    · have hge : ¬ 262144 < bs.length := by simp at hx2; omega
      have e : bytesE kind bs.length = 0 := by unfold bytesE; rw [if_neg hk, if_neg hge]
      have hok := bytesE_ok hb e
      have hbl := bodyB_len hok
      obtain ⟨u, hu⟩ : ∃ u : Nat, kind = u := ⟨kind.toNat, by omega⟩
      have ul := uintB_len2 (u := u) (by omega)
      have eb : sealB (uintB u ++ bs) = bodyB ⟨kind, bs⟩ := by unfold bodyB; dsimp only; rw [hu, Int.toNat_natCast]
      rw [u64w (x := kind) (by omega) (by omega)]
      have hcall := fun {K : Value → Heap → Prop} (k : ∀ a' c' H', SatL H' (slA 5 1 a' (uintB u).length c' ((uintB u).map U8) :: F) → K (.slice a' (uintB u).length c') H') => R06Uint_spec (u := u) h (by omega) k
      rw [← hu] at hcall
      refine hcall fun a2 c2 H2 h => ⟨_, _, _, rfl, ?_⟩
      refine SatL.append (m := bs.length) (ws := bs.map U8) sl32 h 0 rfl (hF _ h.tl) (by simp) (plain_map (fun _ => rfl) _) (by omega) (by omega) fun a3 c3 H3 h => ⟨_, _, _, rfl, ?_⟩
      have h3 : SatL H3 (slA 5 1 a3 (uintB u ++ bs).length c3 ((uintB u ++ bs).map U8) :: F) := by rw [List.length_append, List.map_append]; exact h
      rw [← List.length_append]
      refine R07Seal_spec h3 (fun H h => h.sl_rd 0 rfl) (by rw [List.length_append]; omega) fun a4 c4 H4 h => ⟨_, _, _, rfl, ?_⟩
      rw [eb] at h ⊢
      rw [u64w (x := (((bodyB ⟨kind, bs⟩).length : Nat) : Int)) (by omega) (by omega)]
      refine R06Uint_spec (u := (bodyB ⟨kind, bs⟩).length) h (by omega) fun a7 c7 H7 h => ⟨_, _, _, rfl, ?_⟩
      have hll := uintB_len3 hbl.1
      refine SatL.append (m := (bodyB ⟨kind, bs⟩).length) (ws := (bodyB ⟨kind, bs⟩).map U8) sl32 h 0 rfl (h.sl_rd 1 rfl) (by simp) (plain_map (fun _ => rfl) _) (by omega) (by omega) fun a8 c8 H8 h => ⟨_, _, _, rfl, ?_⟩
      have hk1 := k1 a8 c8 H8 e
      unfold recB at hk1
      rw [List.length_append, List.map_append] at hk1
      exact hk1 (h.ordt [0] 3 (by decide) (by decide))

theorem Same_spec {a b : Option Addr} {c d : Nat} {rs qs : List Ry} (ha : rdS H a (flat encR rs)) (hb : rdS H b (flat encR qs)) (hra : ∀ r ∈ rs, rdS H r.y.a (r.y.bs.map U8)) (hrb : ∀ r ∈ qs, rdS H r.y.a (r.y.bs.map U8)) (hl : rs.length ≤ 1099511627776)
    (hal : ∀ r ∈ rs, r.y.bs.length ≤ 1099511627776) : CallQ Tryz.prog 50 #[.slice a rs.length c, .slice b qs.length d] H (.bool (decide (rs.map Ry.rc = qs.map Ry.rc))) := by
  unfold CallQ
  refine R11_Same.call ?_
  unfold R11_Same.code
  refine ⟨fun hx => ?_, fun hx => ?_⟩
  · have hne : rs.length ≠ qs.length := by simp at hx; omega
    rw [decide_eq_false]
    · exact ⟨rfl, rfl⟩
    · intro e
      have := congrArg List.length e
      simp at this
      exact hne this
  · have hlen : rs.length = qs.length := by simp at hx; omega
    refine ⟨fun i H' => H' = H ∧ ∃ j : Nat, i = j ∧ j ≤ rs.length ∧ (rs.take j).map Ry.rc = (qs.take j).map Ry.rc, fun i _ => rs.length - i.toNat, ⟨rfl, 0, rfl, Nat.zero_le _, rfl⟩, ?_⟩
    rintro i H' ⟨rfl, j, rfl, hj, he⟩
    unfold R11_Same.l1
    refine ⟨fun hx => ?_, fun hx => ?_⟩
    · have hlt : j < rs.length := by simpa using hx
      have hlt2 : j < qs.length := by omega
      have q := SameBytes_spec (c := rs[j].y.c) (d := qs[j].y.c) (hra _ (List.getElem_mem hlt)) (hrb _ (List.getElem_mem hlt2)) (hal _ (List.getElem_mem hlt))
      have hno : ∀ (hd : ¬ (rs[j].kind = qs[j].kind ∧ rs[j].y.bs = qs[j].y.bs)), ¬ rs.map Ry.rc = qs.map Ry.rc := fun hd e => by
        apply hd
        have e1 : rs[j].rc = qs[j].rc := by
          have := congrArg (fun l : List Rc => l[j]?) e
          simpa [hlt, hlt2] using this
        exact ⟨congrArg Rc.kind e1, congrArg Rc.data e1⟩
      refine ⟨⟨by omega, by omega⟩, _, _, ha.some encR_len (by omega) hlt, _, ha.el0 encR_len hlt rfl, ⟨by omega, by omega⟩, _, _, hb.some encR_len (by omega) hlt2, _, hb.el0 encR_len hlt2 rfl,
        fun _ => ⟨by omega, by omega⟩, _, _, fun _ => ha.some encR_len (by omega) hlt, _, _, _, fun _ => ha.el encR_len hlt 1 rfl, fun _ => ⟨by omega, by omega⟩, _, _, fun _ => hb.some encR_len (by omega) hlt2, _, _, _, fun _ => hb.el encR_len hlt2 1 rfl, _, fun _ => q, fun hc => ?_, fun hc => ?_⟩
      · rw [decide_eq_false]
        · exact ⟨rfl, rfl⟩
        · refine hno fun hd => ?_
          simp [hd.1, hd.2] at hc
      · have hd : rs[j].kind = qs[j].kind ∧ rs[j].y.bs = qs[j].y.bs := by simpa using hc
        rw [w64 (x := (j : Int) + 1) (by omega) (by omega)]
        refine ⟨⟨rfl, j + 1, rfl, hlt, ?_⟩, by simp only [Int.toNat_natCast]; omega⟩
        rw [List.take_succ_eq_append_getElem hlt, List.take_succ_eq_append_getElem hlt2, List.map_append, List.map_append, he]
        simp [Ry.rc, hd.1, hd.2]
    · have hj2 : j = rs.length := by simp at hx; omega
      subst hj2
      rw [List.take_length, List.take_of_length_le (by omega)] at he
      rw [decide_eq_true he]
      exact ⟨rfl, rfl⟩
end
end Go.Proofs.YtomdcdfcdeaabaaGreat
namespace Go.Nm
open Go
def RowsOk (rows : DR) : Prop := ∀ r ∈ rows, (0 ≤ r.1 ∧ r.1 ≤ 2147483647) ∧ 0 ≤ r.2 ∧ r.2 < 256
theorem RowsOk.bytes {rows : DR} (h : RowsOk rows) (f : Int) : isBytes (bytesOf f rows) := by
  intro x hx
  unfold bytesOf at hx
  obtain ⟨r, hr, rfl⟩ := List.mem_map.1 hx
  exact (h r (List.mem_filter.1 hr).1).2
theorem RowsOk.app {rows : DR} (h : RowsOk rows) {f : Int} {bs : List Int} (hf : 0 ≤ f ∧ f ≤ 2147483647) (hb : isBytes bs) : RowsOk (rows ++ bs.map fun b => (f, b)) := by
  intro r hr
  rcases List.mem_append.1 hr with hr | hr
  · exact h r hr
  · obtain ⟨b, hb2, rfl⟩ := List.mem_map.1 hr
    exact ⟨hf, hb b hb2⟩
theorem RowsOk.take {rows : DR} (h : RowsOk rows) (n : Nat) : RowsOk (rows.take n) := fun r hr => h r (List.mem_of_mem_take hr)
theorem RowsOk.filter {rows : DR} (h : RowsOk rows) (p : Int × Int → Bool) : RowsOk (rows.filter p) := fun r hr => h r (List.mem_filter.1 hr).1
structure RL where
  most : Int
  seg : Int
  next : Nat
  syn : Nat
structure RL.ok (s : RL) : Prop where
  seg : 0 ≤ s.seg ∧ s.seg ≤ 2147483647
  most : 64 ≤ s.most ∧ s.most ≤ 1048576
  next : s.next ≤ 1099511627776
  syn : s.syn ≤ 1099511627776
def reelA (rb db : Nat) (s : RL) : Assn := cellsA rb [.pointer (some ⟨db, 0, none⟩), .int .i64 s.most, .int .i64 s.seg, .int .i64 s.next, .int .i64 s.syn] 89
def rreelA (rb db : Nat) (s : RL) : Assn := cellsA rb [.pointer (some ⟨db, 0, none⟩), .int .i64 s.most, .int .i64 s.seg, .int .i64 s.next, .int .i64 s.syn] 53
/-- Must the segment be turned? -/
def turns (rows : DR) (s : RL) (n : Nat) : Bool := decide (0 < (bytesOf s.seg rows).length) && decide (s.most < (((bytesOf s.seg rows).length + n : Nat) : Int))
def appE (rows : DR) (s : RL) (r : Rc) : Int :=
  if Go.Proofs.YtomdcdfcdeaabaaGreat.bytesE r.kind r.data.length ≠ 0 then Go.Proofs.YtomdcdfcdeaabaaGreat.bytesE r.kind r.data.length else if turns rows s (recB r).length = true ∧ s.seg = 2147483647 then 20 else 0
def appS (rows : DR) (s : RL) (r : Rc) : RL := if appE rows s r ≠ 0 then s else { s with seg := if turns rows s (recB r).length then s.seg + 1 else s.seg, next := s.next + 1 }
def appRows (rows : DR) (s : RL) (r : Rc) : DR := if appE rows s r ≠ 0 then rows else rows ++ (recB r).map fun b => ((appS rows s r).seg, b)
def appN (rows : DR) (s : RL) (r : Rc) : Int := if appE rows s r ≠ 0 then -1 else s.next
theorem appE_ok {rows : DR} {s : RL} {r : Rc} (hb : isBytes r.data) (h : appE rows s r = 0) : r.ok := by
  unfold appE at h
  split at h
  · rename_i h1; exact absurd h h1
  · rename_i h1
    obtain ⟨k, d⟩ := r
    exact Go.Proofs.YtomdcdfcdeaabaaGreat.bytesE_ok hb (Classical.not_not.1 h1)
theorem appS_seg {rows : DR} {s : RL} {r : Rc} (h : s.ok) : 0 ≤ (appS rows s r).seg ∧ (appS rows s r).seg ≤ 2147483647 := by
  have := h.seg
  unfold appS
  split
  · exact this
  · rename_i h1
    unfold appE at h1
    dsimp only
    split
    · rename_i ht
      split at h1
      · rename_i h2; exact absurd h2 h1
      · split at h1
        · exact absurd (by decide) h1
        · rename_i h3
          have : s.seg ≠ 2147483647 := fun e => h3 ⟨ht, e⟩
          omega
    · exact this
end Go.Nm
namespace Go.Proofs.YtomdcdfcdeaabaaGreat
open Go Go.Nm Go.Proofs
section
variable {F L : List Assn} {H : Heap} {K : Value → Heap → Prop} {rb db pb : Nat} {rows : DR} {syn : Nat} {s : RL}

theorem Read_any {f : Int} (hB : rows.length ≤ 1099511627776) (h : SatL H (diskX db rows syn :: F))
    (k : ∀ a c e H', SatL H' (slA 5 1 a (bytesOf f rows).length c ((bytesOf f rows).map U8) :: diskX db rows syn :: F) → K (.tuple #[.slice a (bytesOf f rows).length c, .int .i64 e]) H') :
    CallF Tryz.prog 36 #[.pointer (some ⟨db, 0, none⟩), .int .i64 f] H K := by
  refine Read_spec hB h (fun hz H' h => ?_) fun hz a c H' h => ?_
  · have := k none 0 23 H'
    rw [hz] at this
    exact this (h.sl_nil 5 1)
  · exact k a c 0 H' h

theorem gather_spec {a : Option Addr} {c : Nat} {parts : List Fy} (h : SatL H F) (ha : ∀ H, SatL H F → rdS H a (parts.map encY)) (hp : ∀ H, SatL H F → ∀ y ∈ parts, rdS H y.a (y.bs.map U8)) (hn : parts.length ≤ 1099511627776) (hl : (parts.flatMap Fy.bs).length ≤ 262144)
    (k : ∀ a' c' H', SatL H' (slA 5 1 a' (parts.flatMap Fy.bs).length c' ((parts.flatMap Fy.bs).map U8) :: F) → K (.slice a' (parts.flatMap Fy.bs).length c') H') :
    CallF Tryz.prog 55 #[.slice a parts.length c] H K := by
  refine reel_gather.call ?_
  unfold reel_gather.code
  intro Jn hJ
  have hpre : ∀ j, ((parts.take j).flatMap Fy.bs).length ≤ (parts.flatMap Fy.bs).length := by
    intro j
    conv => rhs; rw [← List.take_append_drop j parts, List.flatMap_append, List.length_append]
    omega
  refine ⟨fun oa on oc i H' => ∃ j : Nat, i = j ∧ j ≤ parts.length ∧ on = ((parts.take j).flatMap Fy.bs).length ∧ SatL H' (slA 5 1 oa ((parts.take j).flatMap Fy.bs).length oc (((parts.take j).flatMap Fy.bs).map U8) :: F), fun _ _ _ i _ => parts.length - i.toNat, ⟨0, rfl, Nat.zero_le _, rfl, h.sl_nil 5 1⟩, ?_⟩
  rintro oa on oc i H2 ⟨j, rfl, hj, rfl, h⟩
  have hpj := hpre j
  unfold reel_gather.l2
  refine ⟨fun hx => ?_, fun hx => ?_⟩
  · have hlt : j < parts.length := by simpa using hx
    have h1 := (ha _ h.tl).at hlt
    have h2 := hp _ h.tl _ (List.getElem_mem hlt)
    have hft := flat_take hlt
    have hpj1 := hpre (j + 1)
    rw [hft, List.length_append] at hpj1
    refine ⟨⟨by omega, by omega⟩, _, _, h1.1, _, _, _, h1.2, fun hc => ?_, fun _ => ?_⟩
    · have := of_decide_eq_true hc; omega
    · refine SatL.append (m := parts[j].bs.length) (ws := parts[j].bs.map U8) sl32 h 0 rfl h2 (by simp) (plain_map (fun _ => rfl) _) (by omega) (by omega) fun a8 c8 H8 h => ⟨_, _, _, rfl, ?_⟩
      rw [w64 (x := (j : Int) + 1) (by omega) (by omega)]
      refine ⟨⟨j + 1, rfl, hlt, by rw [hft, List.length_append], ?_⟩, by simp only [Int.toNat_natCast]; omega⟩
      rw [hft, List.length_append, List.map_append]
      exact h
  · have hj2 : j = parts.length := by simp at hx; omega
    subst hj2
    rw [List.take_length] at h ⊢
    refine hJ _ _ _ _ ?_
    unfold reel_gather.r1
    exact k _ _ _ h

theorem Next_spec (h : SatL H (reelA rb db s :: F)) : CallQ Tryz.prog 11 #[.pointer (some ⟨rb, 0, none⟩)] H (.int .i64 s.next) := by
  unfold CallQ
  refine reel_Next.call ?_
  unfold reel_Next.code
  exact ⟨_, h.rd 0 rfl _, rfl, rfl⟩
theorem Synced_spec (h : SatL H (reelA rb db s :: F)) : CallQ Tryz.prog 12 #[.pointer (some ⟨rb, 0, none⟩)] H (.int .i64 s.syn) := by
  unfold CallQ
  refine reel_Synced.call ?_
  unfold reel_Synced.code
  exact ⟨_, h.rd 0 rfl _, rfl, rfl⟩
theorem Segment_spec (h : SatL H (reelA rb db s :: F)) : CallQ Tryz.prog 13 #[.pointer (some ⟨rb, 0, none⟩)] H (.int .i64 s.seg) := by
  unfold CallQ
  refine reel_Segment.call ?_
  unfold reel_Segment.code
  exact ⟨_, h.rd 0 rfl _, rfl, rfl⟩
theorem Turn_spec (hs : 0 ≤ s.seg ∧ s.seg ≤ 2147483647) (h : SatL H (reelA rb db s :: F))
    (k1 : s.seg = 2147483647 → ∀ H', SatL H' (reelA rb db s :: F) → K (.tuple #[.int .i64 (-1), .int .i64 20]) H')
    (k2 : s.seg ≠ 2147483647 → ∀ H', SatL H' (reelA rb db { s with seg := s.seg + 1 } :: F) → K (.tuple #[.int .i64 (s.seg + 1), .int .i64 0]) H') :
    CallF Tryz.prog 39 #[.pointer (some ⟨rb, 0, none⟩)] H K := by
  refine reel_Turn.call ?_
  unfold reel_Turn.code
  refine ⟨_, h.rd 0 rfl _, fun hc => k1 (by simpa using hc) _ h, fun hc => ⟨_, h.rd 0 rfl _, ?_⟩⟩
  rw [w64 (x := s.seg + 1) (by omega) (by omega)]
  exact h.st 0 rfl rfl fun H' h => ⟨_, h.rd 0 rfl _, k2 (by simpa using hc) _ h⟩
theorem RSyncR_spec (h : SatL H (reelA rb db s :: diskX db rows syn :: F)) (k : ∀ H', SatL H' (reelA rb db { s with syn := s.next } :: diskX db rows rows.length :: F) → K (.tuple #[]) H') :
    CallF Tryz.prog 17 #[.pointer (some ⟨rb, 0, none⟩)] H K := by
  refine reel_Sync.call ?_
  unfold reel_Sync.code
  refine ⟨_, h.rd 0 rfl _, ?_⟩
  refine Sync_spec (F := reelA rb db s :: F) (h.ordt [1, 0] 2 (by decide) (by decide)) fun H1 h => ⟨rfl, _, h.rd 1 rfl _, ?_⟩
  exact h.st 1 rfl rfl fun H' h => k _ (h.ordt [1, 0] 2 (by decide) (by decide))

theorem AppendR_spec {a : Option Addr} {c : Nat} {parts : List Fy} {kind : Int} (hs : s.ok) (hB : rows.length ≤ 549755813888) (h : SatL H (reelA rb db s :: diskX db rows syn :: F))
    (ha : ∀ H, SatL H F → rdS H a (parts.map encY)) (hp : ∀ H, SatL H F → ∀ y ∈ parts, rdS H y.a (y.bs.map U8)) (hb : isBytes (parts.flatMap Fy.bs)) (hn : parts.length ≤ 1099511627776) (hl : (parts.flatMap Fy.bs).length ≤ 262144)
    (k : ∀ H', SatL H' (reelA rb db (appS rows s ⟨kind, parts.flatMap Fy.bs⟩) :: diskX db (appRows rows s ⟨kind, parts.flatMap Fy.bs⟩) syn :: F) →
      K (.tuple #[.int .i64 (appN rows s ⟨kind, parts.flatMap Fy.bs⟩), .int .i64 (appE rows s ⟨kind, parts.flatMap Fy.bs⟩)]) H') :
    CallF Tryz.prog 38 #[.pointer (some ⟨rb, 0, none⟩), .int .i64 kind, .slice a parts.length c] H K := by
  refine reel_Append.call ?_
  unfold reel_Append.code
  have hs1 := hs.seg
  have hs2 := hs.most
  have hs3 := hs.next
  refine gather_spec h (fun H h => ha H h.tl.tl) (fun H h => hp H h.tl.tl) hn hl fun a1 c1 H1 h => ⟨_, _, _, rfl, ?_⟩
  obtain ⟨d, hd⟩ : ∃ d, parts.flatMap Fy.bs = d := ⟨_, rfl⟩
  rw [hd] at hb hl h k ⊢
  refine Bytes_spec h (fun H h => h.sl_rd 0 rfl) (slA_is h) hb (by omega) (fun a2 c2 H2 he h => ⟨_, _, _, _, rfl, (fun hf => by cases hf), fun _ => ?_⟩) fun H2 he h => ⟨_, _, _, _, rfl, fun _ => ?_, fun hf => by simp [he] at hf⟩
  · have hrl := recB_len (bytesE_ok hb he)
    have hrb := recB_bytes (bytesE_ok hb he)
    dsimp only at hrl
    obtain ⟨r, hr⟩ : ∃ r : Rc, (⟨kind, d⟩ : Rc) = r := ⟨_, rfl⟩
    have he' : bytesE r.kind r.data.length = 0 := by rw [← hr]; exact he
    rw [hr] at h hrl hrb k ⊢
    have hfl := bytesOf_length_le s.seg rows
    refine ⟨_, h.rd 2 rfl _, _, h.rd 2 rfl _, ?_⟩
    refine Read_any (F := slA 5 1 a2 (recB r).length c2 ((recB r).map U8) :: slA 5 1 a1 d.length c1 (d.map U8) :: reelA rb db s :: F) (by omega) (h.ordt [3, 0, 1, 2] 4 (by decide) (by decide)) fun a3 c3 e3 H3 h => ⟨_, _, _, _, rfl, fun _ => trivial, _, fun _ => h.rd 4 rfl _, fun Jn hJ => ?_⟩
    have ew : IntKind.i64.wrap (((bytesOf s.seg rows).length : Int) + ((recB r).length : Int)) = (((bytesOf s.seg rows).length + (recB r).length : Nat) : Int) := by rw [w64 (by omega) (by omega)]; omega
    have et : (decide ((0 : Int) < ((bytesOf s.seg rows).length : Int)) && decide (s.most < (((bytesOf s.seg rows).length + (recB r).length : Nat) : Int))) = turns rows s (recB r).length := by
      unfold turns
      congr 1
      exact decide_eq_decide.2 (by omega)
    rw [ew, et]
    have hcore : ∀ g H', 0 ≤ g ∧ g ≤ 2147483647 → appE rows s r = 0 → appS rows s r = { s with seg := g, next := s.next + 1 } → SatL H' (reelA rb db { s with seg := g } :: diskX db rows syn :: slA 5 1 a2 (recB r).length c2 ((recB r).map U8) :: F) → reel_Append.r1 rb 0 K a2 (recB r).length c2 H' := by
      intro g H' hg e0 eS h
      unfold reel_Append.r1
      refine ⟨_, h.rd 0 rfl _, _, h.rd 0 rfl _, ?_⟩
      refine h.al fun b H4 h => ⟨h.rd 1 rfl _, h.rd 1 rfl _, ?_⟩
      have efl : ([⟨a2, c2, recB r⟩] : List Fy).flatMap Fy.bs = recB r := by simp
      refine Append_spec (F := cellsA b [.slice a2 (recB r).length c2] 32 :: reelA rb db { s with seg := g } :: slA 5 1 a2 (recB r).length c2 ((recB r).map U8) :: F) (pc := 1) (parts := [⟨a2, c2, recB r⟩]) (by rw [efl]; omega) (by simp) (fun H h => ⟨h.ce_rd 0 rfl, fun p hp => by
        rw [List.mem_singleton] at hp; subst hp; exact h.sl_rd 2 rfl⟩) (h.ordt [2, 0, 1, 3] 4 (by decide) (by decide)) (fun hf => absurd hf (by dsimp only; omega)) fun _ H5 h => ⟨_, rfl, (fun hf => by cases hf), fun _ => ⟨_, h.rd 2 rfl _, ?_⟩⟩
      rw [w64 (x := (s.next : Int) + 1) (by omega) (by omega)]
      refine h.st 2 rfl rfl fun H6 h => ⟨_, h.rd 2 rfl _, ?_⟩
      have hk := k H6
      rw [show appN rows s r = s.next by unfold appN; rw [if_neg (by rw [e0]; decide)], e0, show appRows rows s r = rows ++ (recB r).map (fun b => (g, b)) by unfold appRows; rw [if_neg (by rw [e0]; decide), eS], eS] at hk
      have en : IntKind.i64.wrap (((s.next : Int) + 1) - 1) = s.next := by rw [w64 (by omega) (by omega)]; omega
      rw [en]
      refine hk ?_
      have ha : appd g [(⟨a2, c2, recB r⟩ : Fy)] = (recB r).map (fun b => (g, b)) := by simp [appd]
      have h := h.ordt [2, 0] 4 (by decide) (by decide)
      rw [← ha]
      exact h
    have e0 : appE rows s r = if turns rows s (recB r).length = true ∧ s.seg = 2147483647 then 20 else 0 := by unfold appE; rw [if_neg (by rw [he']; decide)]
    refine ⟨fun ht => ?_, fun ht => ?_⟩
    · refine Turn_spec (F := slA 5 1 a3 (bytesOf s.seg rows).length c3 ((bytesOf s.seg rows).map U8) :: diskX db rows syn :: slA 5 1 a2 (recB r).length c2 ((recB r).map U8) :: slA 5 1 a1 d.length c1 (d.map U8) :: F) hs1 (h.ordt [4, 0, 1, 2, 3] 5 (by decide) (by decide)) (fun hm H4 h => ⟨_, _, rfl, fun _ => ?_, (fun hf => by cases hf)⟩) fun hm H4 h => ⟨_, _, rfl, (fun hf => by cases hf), fun _ => hJ _ ?_⟩
      · rw [if_pos ⟨ht, hm⟩] at e0
        have hk := k H4
        unfold appN appS appRows at hk
        rw [e0, if_pos (by decide), if_pos (by decide), if_pos (by decide)] at hk
        exact hk (h.ordt [0, 2] 5 (by decide) (by decide))
      · rw [if_neg (fun hh => hm hh.2)] at e0
        exact hcore (s.seg + 1) _ (by omega) e0 (by unfold appS; rw [if_neg (by rw [e0]; decide), if_pos ht]) (h.ordt [0, 2, 3] 5 (by decide) (by decide))
    · have htf : turns rows s (recB r).length = false := ht
      rw [if_neg (fun hh => by rw [hh.1] at htf; cases htf)] at e0
      exact hJ _ (hcore s.seg _ hs1 e0 (by unfold appS; rw [if_neg (by rw [e0]; decide), htf]; rfl) (h.ordt [4, 1, 2] 5 (by decide) (by decide)))
  · have e0 : appE rows s ⟨kind, d⟩ = bytesE kind d.length := by unfold appE; dsimp only; rw [if_pos he]
    have hk := k H2
    unfold appN appS appRows at hk
    rw [e0, if_pos he, if_pos he, if_pos he] at hk
    exact hk (h.ordt [1, 2] 3 (by decide) (by decide))
end
end Go.Proofs.YtomdcdfcdeaabaaGreat
namespace Go.Nm
open Go
def allM (rows : DR) : List Rc := (filesOf rows).flatMap fun f => (scanM (bytesOf f rows)).1
def segOf (rows : DR) : Int := match (filesOf rows)[(filesOf rows).length - 1]? with
  | none => 0
  | some f => f + 1
def openE (most : Int) (rows : DR) : Int := if most < 64 ∨ 1048576 < most then 11 else if 2147483647 < segOf rows then 20 else 0
def dropR (below : Int) (rows : DR) : DR := rows.filter fun r => decide (below ≤ r.1)
theorem scanM_len {b : List Int} (hb : isBytes b) : (scanM b).1.length ≤ b.length := by
  obtain ⟨h1, h2, h3⟩ := scanM_ok (Nat.le_refl _) hb
  have h4 := congrArg List.length h3
  rw [List.length_take] at h4
  have : ∀ rs : List Rc, (∀ r ∈ rs, r.ok) → rs.length ≤ (rs.flatMap recB).length := by
    intro rs
    induction rs with
    | nil => intro _; simp
    | cons r rs ih =>
      intro h
      have e1 := recB_len (h r List.mem_cons_self)
      have e2 := ih fun x hx => h x (List.mem_cons_of_mem _ hx)
      rw [List.flatMap_cons, List.length_append, List.length_cons]
      omega
  have := this _ h1
  omega
theorem files_nodup (rows : DR) : (filesOf rows).Nodup := (filesOf_rising rows).imp fun h => by omega
theorem allM_len {rows : DR} (h : RowsOk rows) : (allM rows).length ≤ rows.length := by
  have h1 := sum_bytes rows (filesOf rows) (files_nodup rows) fun r hr => mem_filesOf.2 (List.mem_map.2 ⟨r, hr, rfl⟩)
  rw [← h1]
  unfold allM
  generalize filesOf rows = l
  induction l with
  | nil => simp
  | cons f l ih =>
    rw [List.flatMap_cons, List.length_append, List.map_cons, List.sum_cons]
    have := scanM_len (h.bytes f)
    omega
theorem flatMap_take_le {α β : Type} (f : α → List β) (l : List α) (j : Nat) : ((l.take j).flatMap f).length ≤ (l.flatMap f).length := by
  conv => rhs; rw [← List.take_append_drop j l, List.flatMap_append, List.length_append]
  omega
theorem flatMap_take_succ {α β : Type} (f : α → List β) {l : List α} {j : Nat} (h : j < l.length) : (l.take (j + 1)).flatMap f = (l.take j).flatMap f ++ f l[j] := by
  rw [List.take_succ_eq_append_getElem h, List.flatMap_append]
  simp
theorem segOf_cons {rows : DR} {n : Nat} (h : n + 1 = (filesOf rows).length) : ∃ f, (filesOf rows)[n]? = some f ∧ segOf rows = f + 1 ∧ f ∈ filesOf rows := by
  have hlt : n < (filesOf rows).length := by omega
  refine ⟨_, List.getElem?_eq_getElem hlt, ?_, List.getElem_mem hlt⟩
  unfold segOf
  rw [← h, Nat.add_sub_cancel, List.getElem?_eq_getElem hlt]
theorem segOf_nil {rows : DR} (h : (filesOf rows).length = 0) : segOf rows = 0 := by
  unfold segOf
  rw [List.length_eq_zero_iff.1 h]
  rfl
theorem RowsOk.file {rows : DR} (h : RowsOk rows) {f : Int} (hf : f ∈ filesOf rows) : 0 ≤ f ∧ f ≤ 2147483647 := by
  obtain ⟨r, hr, rfl⟩ := List.mem_map.1 (mem_filesOf.1 hf)
  exact (h r hr).1
theorem segOf_in {rows : DR} (h : RowsOk rows) : 0 ≤ segOf rows ∧ segOf rows ≤ 2147483648 := by
  cases hn : (filesOf rows).length with
  | zero => rw [segOf_nil hn]; omega
  | succ n =>
    obtain ⟨f, h1, h2, h3⟩ := segOf_cons hn.symm
    have := h.file h3
    omega
/-- The rows behind the deletions of a beginning of the files. -/
def dropJ (below : Int) (rows : DR) (j : Nat) : DR := rows.filter fun r => !(decide (r.1 ∈ (filesOf rows).take j) && decide (r.1 < below))
theorem dropJ_zero (below : Int) (rows : DR) : dropJ below rows 0 = rows := by
  unfold dropJ
  simp
theorem dropJ_all (below : Int) (rows : DR) : dropJ below rows (filesOf rows).length = dropR below rows := by
  unfold dropJ dropR
  refine List.filter_congr fun r hr => ?_
  rw [List.take_length, decide_eq_true (mem_filesOf.2 (List.mem_map.2 ⟨r, hr, rfl⟩)), Bool.true_and, ← decide_not]
  exact decide_eq_decide.2 (by omega)
theorem dropJ_succ {below : Int} {rows : DR} {j : Nat} (h : j < (filesOf rows).length) :
    dropJ below rows (j + 1) = if (filesOf rows)[j] < below then (dropJ below rows j).filter (fun r => decide (r.1 ≠ (filesOf rows)[j])) else dropJ below rows j := by
  have hm : ∀ x, decide (x ∈ (filesOf rows).take (j + 1)) = (decide (x ∈ (filesOf rows).take j) || decide (x = (filesOf rows)[j])) := by
    intro x
    rw [← Bool.decide_or]
    refine decide_eq_decide.2 ?_
    rw [List.take_succ_eq_append_getElem h, List.mem_append, List.mem_singleton]
  split
  · rename_i hlt
    unfold dropJ
    rw [List.filter_filter]
    refine List.filter_congr fun r hr => ?_
    rw [hm]
    by_cases e : r.1 = (filesOf rows)[j]
    · rw [decide_eq_true e, show decide (r.1 ≠ (filesOf rows)[j]) = false from decide_eq_false fun hh => hh e, show decide (r.1 < below) = true from decide_eq_true (by rw [e]; exact hlt)]
      simp
    · rw [decide_eq_false e, show decide (r.1 ≠ (filesOf rows)[j]) = true from decide_eq_true e, Bool.or_false, Bool.true_and]
  · rename_i hge
    unfold dropJ
    refine List.filter_congr fun r hr => ?_
    rw [hm]
    by_cases e : r.1 = (filesOf rows)[j]
    · rw [show decide (r.1 < below) = false from decide_eq_false (by rw [e]; exact hge), Bool.and_false, Bool.and_false]
    · rw [decide_eq_false e, Bool.or_false]
theorem dropJ_len (below : Int) (rows : DR) (j : Nat) : (dropJ below rows j).length ≤ rows.length := List.length_filter_le _ _
end Go.Nm
namespace Go.Proofs.YtomdcdfcdeaabaaGreat
open Go Go.Nm Go.Proofs
section
variable {F L : List Assn} {H : Heap} {K : Value → Heap → Prop} {rb db pb : Nat} {rows : DR} {syn : Nat} {s : RL}

theorem RAppendR_spec {a : Option Addr} {c : Nat} {d : List Int} {kind : Int} (hs : s.ok) (hB : rows.length ≤ 549755813888) (h : SatL H (rreelA rb db s :: refX db rows syn :: F))
    (ha : ∀ H, SatL H F → rdS H a (d.map U8)) (hb : isBytes d) (hl : d.length ≤ 1099511627776)
    (k : ∀ H', SatL H' (rreelA rb db (appS rows s ⟨kind, d⟩) :: refX db (appRows rows s ⟨kind, d⟩) syn :: F) →
      K (.tuple #[.int .i64 (appN rows s ⟨kind, d⟩), .int .i64 (appE rows s ⟨kind, d⟩)]) H') :
    CallF Tryz.prog 45 #[.pointer (some ⟨rb, 0, none⟩), .int .i64 kind, .slice a d.length c] H K := by
  refine R11_Reel_Append.call ?_
  unfold R11_Reel_Append.code
  have hs1 := hs.seg
  have hs2 := hs.most
  have hs3 := hs.next
  refine RBytes_spec h (fun H h => ha H h.tl.tl) hb hl (fun a2 c2 H2 he h => ⟨_, _, _, _, rfl, (fun hf => by cases hf), fun _ => ?_⟩) fun H2 he h => ⟨_, _, _, _, rfl, fun _ => ?_, fun hf => by simp [he] at hf⟩
  · have hrl := recB_len (bytesE_ok hb he)
    have hrb := recB_bytes (bytesE_ok hb he)
    have hdl : d.length ≤ 262144 := (bytesE_ok hb he).len
    dsimp only at hrl
    obtain ⟨r, hr⟩ : ∃ r : Rc, (⟨kind, d⟩ : Rc) = r := ⟨_, rfl⟩
    have he' : bytesE r.kind r.data.length = 0 := by rw [← hr]; exact he
    rw [hr] at h hrl hrb k ⊢
    have hfl := bytesOf_length_le s.seg rows
    refine ⟨_, h.rd 1 rfl _, _, h.rd 1 rfl _, ?_⟩
    refine RRead_spec (F := slA 5 1 a2 (recB r).length c2 ((recB r).map U8) :: rreelA rb db s :: F) (by omega) (h.ordt [2, 0, 1] 3 (by decide) (by decide)) fun a3 c3 H3 h => ⟨_, _, _, rfl, fun _ => trivial, _, fun _ => h.rd 3 rfl _, fun Jn hJ => ?_⟩
    have ew : IntKind.i64.wrap (((bytesOf s.seg rows).length : Int) + ((recB r).length : Int)) = (((bytesOf s.seg rows).length + (recB r).length : Nat) : Int) := by rw [w64 (by omega) (by omega)]; omega
    have et : (decide ((0 : Int) < ((bytesOf s.seg rows).length : Int)) && decide (s.most < (((bytesOf s.seg rows).length + (recB r).length : Nat) : Int))) = turns rows s (recB r).length := by
      unfold turns
      congr 1
      exact decide_eq_decide.2 (by omega)
    rw [ew, et]
    have hcore : ∀ g H', 0 ≤ g ∧ g ≤ 2147483647 → appE rows s r = 0 → appS rows s r = { s with seg := g, next := s.next + 1 } → SatL H' (rreelA rb db { s with seg := g } :: refX db rows syn :: slA 5 1 a2 (recB r).length c2 ((recB r).map U8) :: F) → R11_Reel_Append.r1 rb 0 K a2 (recB r).length c2 H' := by
      intro g H' hg e0 eS h
      unfold R11_Reel_Append.r1
      refine ⟨_, h.rd 0 rfl _, _, h.rd 0 rfl _, ?_⟩
      refine RAppend_spec (F := rreelA rb db { s with seg := g } :: slA 5 1 a2 (recB r).length c2 ((recB r).map U8) :: F) (by omega) (fun H h => h.sl_rd 1 rfl) (h.ordt [1, 0, 2] 3 (by decide) (by decide)) (fun hf => absurd hf (by dsimp only; omega)) fun _ H5 h => ⟨_, rfl, _, h.rd 1 rfl _, ?_⟩
      rw [w64 (x := (s.next : Int) + 1) (by omega) (by omega)]
      refine h.st 1 rfl rfl fun H6 h => ⟨_, h.rd 1 rfl _, ?_⟩
      have hk := k H6
      rw [show appN rows s r = s.next by unfold appN; rw [if_neg (by rw [e0]; decide)], e0, show appRows rows s r = rows ++ (recB r).map (fun b => (g, b)) by unfold appRows; rw [if_neg (by rw [e0]; decide), eS], eS] at hk
      have en : IntKind.i64.wrap (((s.next : Int) + 1) - 1) = s.next := by rw [w64 (by omega) (by omega)]; omega
      rw [en]
      exact hk (h.ordt [1, 0] 3 (by decide) (by decide))
    have e0 : appE rows s r = if turns rows s (recB r).length = true ∧ s.seg = 2147483647 then 20 else 0 := by unfold appE; rw [if_neg (by rw [he']; decide)]
    refine ⟨fun ht => ⟨_, h.rd 3 rfl _, fun hm => ?_, fun hm => ⟨_, h.rd 3 rfl _, ?_⟩⟩, fun ht => ?_⟩
    · have hm : s.seg = 2147483647 := by simpa using hm
      rw [if_pos ⟨ht, hm⟩] at e0
      have hk := k H3
      unfold appN appS appRows at hk
      rw [e0, if_pos (by decide), if_pos (by decide), if_pos (by decide)] at hk
      exact hk (h.ordt [3, 1] 4 (by decide) (by decide))
    · have hm : s.seg ≠ 2147483647 := by simpa using hm
      rw [if_neg (fun hh => hm hh.2)] at e0
      rw [w64 (x := s.seg + 1) (by omega) (by omega)]
      refine h.st 3 rfl rfl fun H6 h => hJ _ ?_
      exact hcore (s.seg + 1) _ (by omega) e0 (by unfold appS; rw [if_neg (by rw [e0]; decide), if_pos ht]) (h.ordt [3, 1, 2] 4 (by decide) (by decide))
    · have htf : turns rows s (recB r).length = false := ht
      rw [if_neg (fun hh => by rw [hh.1] at htf; cases htf)] at e0
      exact hJ _ (hcore s.seg _ hs1 e0 (by unfold appS; rw [if_neg (by rw [e0]; decide), htf]; rfl) (h.ordt [3, 1, 2] 4 (by decide) (by decide)))
  · have e0 : appE rows s ⟨kind, d⟩ = bytesE kind d.length := by unfold appE; dsimp only; rw [if_pos he]
    have hk := k H2
    unfold appN appS appRows at hk
    rw [e0, if_pos he, if_pos he, if_pos he] at hk
    exact hk h

theorem DropR_spec {below : Int} (hB : rows.length ≤ 1099511627776) (hs : syn ≤ rows.length) (h : SatL H (reelA rb db s :: diskX db rows syn :: F))
    (k1 : syn < rows.length → ∀ H', SatL H' (reelA rb db s :: diskX db rows syn :: F) → K (.int .i64 21) H')
    (k2 : ¬ syn < rows.length → ∀ H', SatL H' (reelA rb db s :: diskX db (dropR below rows) (dropR below rows).length :: F) → K (.int .i64 0) H') :
    CallF Tryz.prog 40 #[.pointer (some ⟨rb, 0, none⟩), .int .i64 below] H K := by
  refine reel_Drop.call ?_
  unfold reel_Drop.code
  refine ⟨_, h.rd 0 rfl _, ?_⟩
  refine Pending_spec (F := reelA rb db s :: F) hB (h.ordt [1, 0] 2 (by decide) (by decide)) fun H1 h => ⟨_, rfl, fun hx => ?_, fun hx => ?_⟩
  · have := of_decide_eq_true hx
    exact k1 (by omega) _ (h.ordt [1, 0] 2 (by decide) (by decide))
  · have hx := of_decide_eq_false hx
    have hsy : syn = rows.length := by omega
    refine ⟨_, h.rd 1 rfl _, ?_⟩
    refine Files_spec hB h fun fa fc H2 h => ⟨_, _, _, rfl, ?_⟩
    have hfl := filesOf_length_le rows
    refine ⟨fun i H' => ∃ j : Nat, i = j ∧ j ≤ (filesOf rows).length ∧ SatL H' (slA 3 1 fa (filesOf rows).length fc ((filesOf rows).map I64) :: diskX db (dropJ below rows j) (dropJ below rows j).length :: reelA rb db s :: F), fun i _ => (filesOf rows).length - i.toNat, ⟨0, rfl, Nat.zero_le _, ?_⟩, ?_⟩
    · rw [dropJ_zero, ← hsy]
      exact h
    rintro i H3 ⟨j, rfl, hj, h⟩
    unfold reel_Drop.l2
    refine ⟨fun hx => ?_, fun hx => ?_⟩
    · have hlt : j < (filesOf rows).length := by simpa using hx
      have hr := (h.sl_rd 0 rfl).at hlt
      refine ⟨⟨by omega, by omega⟩, _, _, hr.1, _, hr.2, fun Jn hJ => ?_⟩
      have hsucc := dropJ_succ (below := below) hlt
      have next : ∀ H', SatL H' (slA 3 1 fa (filesOf rows).length fc ((filesOf rows).map I64) :: diskX db (dropJ below rows (j + 1)) (dropJ below rows (j + 1)).length :: reelA rb db s :: F) → Jn H' := by
        intro H' h
        refine hJ _ ?_
        unfold reel_Drop.r1
        rw [w64 (x := (j : Int) + 1) (by omega) (by omega)]
        exact ⟨⟨j + 1, rfl, hlt, h⟩, by simp only [Int.toNat_natCast]; omega⟩
      refine ⟨fun hc => ⟨_, h.rd 2 rfl _, ?_⟩, fun hc => ?_⟩
      · have hc : (filesOf rows)[j] < below := of_decide_eq_true hc
        rw [if_pos hc] at hsucc
        refine Delete_spec (F := slA 3 1 fa (filesOf rows).length fc ((filesOf rows).map I64) :: reelA rb db s :: F) (h.ordt [1, 0, 2] 3 (by decide) (by decide)) (fun hz H4 h => ⟨_, rfl, next _ ?_⟩) (fun _ hf => absurd hf (Nat.lt_irrefl _)) fun hz _ H4 h => ⟨_, rfl, next _ ?_⟩
        · have e : (dropJ below rows j).filter (fun r => decide (r.1 ≠ (filesOf rows)[j])) = dropJ below rows j := by
            refine List.filter_eq_self.2 fun r hr => ?_
            have : ¬ r.1 = (filesOf rows)[j] := fun e => by
              have := bytesOf_mem.2 (List.mem_map.2 ⟨r, hr, e⟩)
              exact this hz
            simp [this]
          rw [hsucc, e]
          exact h.ordt [1, 0, 2] 3 (by decide) (by decide)
        · rw [hsucc]
          exact h.ordt [1, 0, 2] 3 (by decide) (by decide)
      · have hc : ¬ (filesOf rows)[j] < below := of_decide_eq_false hc
        rw [if_neg hc] at hsucc
        refine next _ ?_
        rw [hsucc]
        exact h
    · have hj2 : j = (filesOf rows).length := by simp at hx; omega
      subst hj2
      rw [dropJ_all] at h
      exact k2 (by omega) _ (h.ordt [2, 1] 3 (by decide) (by decide))
theorem RDropR_spec {below : Int} (hB : rows.length ≤ 1099511627776) (hs : syn ≤ rows.length) (h : SatL H (rreelA rb db s :: refX db rows syn :: F))
    (k1 : syn < rows.length → ∀ H', SatL H' (rreelA rb db s :: refX db rows syn :: F) → K (.int .i64 21) H')
    (k2 : ¬ syn < rows.length → ∀ H', SatL H' (rreelA rb db s :: refX db (dropR below rows) (dropR below rows).length :: F) → K (.int .i64 0) H') :
    CallF Tryz.prog 46 #[.pointer (some ⟨rb, 0, none⟩), .int .i64 below] H K := by
  refine R11_Reel_Drop.call ?_
  unfold R11_Reel_Drop.code
  refine ⟨_, h.rd 0 rfl _, ?_⟩
  obtain ⟨ra, rc, h1⟩ := refX_open (h.ordt [1, 0] 2 (by decide) (by decide))
  refine nn_some ⟨_, h1.rd 0 rfl _, _, h.rd 0 rfl _, nn_some ⟨_, _, _, h1.rd 0 rfl _, fun hx => ?_, fun hx => ?_⟩⟩
  · have := of_decide_eq_true hx
    exact k1 (by omega) _ h
  · have hx := of_decide_eq_false hx
    have hsy : syn = rows.length := by omega
    refine ⟨_, h.rd 0 rfl _, ?_⟩
    refine RFiles_spec (F := rreelA rb db s :: F) hB (h.ordt [1, 0] 2 (by decide) (by decide)) fun fa fc H2 h => ⟨_, _, _, rfl, ?_⟩
    have hfl := filesOf_length_le rows
    refine ⟨fun i H' => ∃ j : Nat, i = j ∧ j ≤ (filesOf rows).length ∧ SatL H' (slA 3 1 fa (filesOf rows).length fc ((filesOf rows).map I64) :: refX db (dropJ below rows j) (dropJ below rows j).length :: rreelA rb db s :: F), fun i _ => (filesOf rows).length - i.toNat, ⟨0, rfl, Nat.zero_le _, ?_⟩, ?_⟩
    · rw [dropJ_zero, ← hsy]
      exact h
    rintro i H3 ⟨j, rfl, hj, h⟩
    unfold R11_Reel_Drop.l2
    refine ⟨fun hx => ?_, fun hx => ?_⟩
    · have hlt : j < (filesOf rows).length := by simpa using hx
      have hr := (h.sl_rd 0 rfl).at hlt
      refine ⟨⟨by omega, by omega⟩, _, _, hr.1, _, hr.2, fun Jn hJ => ?_⟩
      have hsucc := dropJ_succ (below := below) hlt
      have hdl := dropJ_len below rows j
      have next : ∀ H', SatL H' (slA 3 1 fa (filesOf rows).length fc ((filesOf rows).map I64) :: refX db (dropJ below rows (j + 1)) (dropJ below rows (j + 1)).length :: rreelA rb db s :: F) → Jn H' := by
        intro H' h
        refine hJ _ ?_
        unfold R11_Reel_Drop.r1
        rw [w64 (x := (j : Int) + 1) (by omega) (by omega)]
        exact ⟨⟨j + 1, rfl, hlt, h⟩, by simp only [Int.toNat_natCast]; omega⟩
      refine ⟨fun hc => ⟨_, h.rd 2 rfl _, ⟨by omega, by omega⟩, _, _, hr.1, _, hr.2, ?_⟩, fun hc => ?_⟩
      · have hc : (filesOf rows)[j] < below := of_decide_eq_true hc
        rw [if_pos hc] at hsucc
        refine RDelete_spec (F := slA 3 1 fa (filesOf rows).length fc ((filesOf rows).map I64) :: rreelA rb db s :: F) (by omega) (Nat.le_refl _) (h.ordt [1, 0, 2] 3 (by decide) (by decide)) (fun hz H4 h => ⟨_, rfl, next _ ?_⟩) (fun _ hf => absurd hf (Nat.lt_irrefl _)) fun hz _ H4 h => ⟨_, rfl, next _ ?_⟩
        · have e : (dropJ below rows j).filter (fun r => decide (r.1 ≠ (filesOf rows)[j])) = dropJ below rows j := by
            refine List.filter_eq_self.2 fun r hr => ?_
            have : ¬ r.1 = (filesOf rows)[j] := fun e => by
              have := bytesOf_mem.2 (List.mem_map.2 ⟨r, hr, e⟩)
              exact this hz
            simp [this]
          rw [hsucc, e]
          exact h.ordt [1, 0, 2] 3 (by decide) (by decide)
        · rw [hsucc]
          exact h.ordt [1, 0, 2] 3 (by decide) (by decide)
      · have hc : ¬ (filesOf rows)[j] < below := of_decide_eq_false hc
        rw [if_neg hc] at hsucc
        refine next _ ?_
        rw [hsucc]
        exact h
    · have hj2 : j = (filesOf rows).length := by simp at hx; omega
      subst hj2
      rw [dropJ_all] at h
      exact k2 (by omega) _ (h.ordt [2, 1] 3 (by decide) (by decide))
end
end Go.Proofs.YtomdcdfcdeaabaaGreat
namespace Go.Proofs.YtomdcdfcdeaabaaGreat
open Go Go.Nm Go.Proofs
section
variable {F L : List Assn} {H : Heap} {K : Value → Heap → Prop} {rb db pb : Nat} {rows : DR} {syn : Nat} {s : RL} {most : Int}
abbrev opS (most : Int) (rows : DR) : RL := ⟨most, segOf rows, (allM rows).length, (allM rows).length⟩
/-- The records of a beginning of the files. -/
def allJ (rows : DR) (j : Nat) : List Rc := ((filesOf rows).take j).flatMap fun f => (scanM (bytesOf f rows)).1
theorem allJ_le (h : RowsOk rows) (j : Nat) : (allJ rows j).length ≤ rows.length := Nat.le_trans (flatMap_take_le _ _ _) (allM_len h)
theorem allJ_succ {j : Nat} (h : j < (filesOf rows).length) : allJ rows (j + 1) = allJ rows j ++ (scanM (bytesOf (filesOf rows)[j] rows)).1 := flatMap_take_succ _ h
theorem allJ_all : allJ rows (filesOf rows).length = allM rows := by unfold allJ allM; rw [List.take_length]

theorem rowsR_join {a b : List Ry} (h : SatL H (rowsR a :: rowsR b :: F)) : SatL H (rowsR (a ++ b) :: F) := by rw [rowsR_append]; exact satL_sep.2 h
theorem encR_plain (r : Ry) : plainCells (encR r) = true := rfl

theorem Open_spec (ok : RowsOk rows) (hB : rows.length ≤ 1099511627776) (h : SatL H (diskX db rows syn :: F))
    (k1 : openE most rows = 0 → ∀ (rs : List Ry) a c rb H', rs.map Ry.rc = allM rows → SatL H' (reelA rb db (opS most rows) :: slA 64 2 a rs.length c (flat encR rs) :: rowsR rs :: diskX db rows syn :: F) →
      K (.tuple #[.pointer (some ⟨rb, 0, none⟩), .slice a rs.length c, .int .i64 0]) H')
    (k2 : openE most rows ≠ 0 → ∀ H', SatL H' (diskX db rows syn :: F) → K (.tuple #[.pointer none, .slice none 0 0, .int .i64 (openE most rows)]) H') :
    CallF Tryz.prog 19 #[.pointer (some ⟨db, 0, none⟩), .int .i64 most] H K := by
  refine reel_Open.call ?_
  unfold reel_Open.code
  refine ⟨fun hx => ?_, fun hx => ?_⟩
  · have hm : most < 64 ∨ 1048576 < most := by simpa using hx
    have e : openE most rows = 11 := by unfold openE; rw [if_pos hm]
    have := k2 (by rw [e]; decide) _ h
    rwa [e] at this
  have hm : ¬ (most < 64 ∨ 1048576 < most) := by simp at hx; omega
  have hsg := segOf_in ok
  refine Files_spec hB h fun fa fc H1 h => ⟨_, _, _, rfl, fun Jn hJ => ?_⟩
  have hfl := filesOf_length_le rows
  have rest : ∀ H', SatL H' (slA 3 1 fa (filesOf rows).length fc ((filesOf rows).map I64) :: diskX db rows syn :: F) → Jn (segOf rows) H' := by
    intro H' h
    refine hJ _ _ ?_
    unfold reel_Open.r2
    refine ⟨fun hx => ?_, fun hx => ?_⟩
    · have hlt : 2147483647 < segOf rows := of_decide_eq_true hx
      have e : openE most rows = 20 := by unfold openE; rw [if_neg hm, if_pos hlt]
      have := k2 (by rw [e]; decide) _ h.tl
      rwa [e] at this
    · have hge : ¬ 2147483647 < segOf rows := of_decide_eq_false hx
      have e : openE most rows = 0 := by unfold openE; rw [if_neg hm, if_neg hge]
      refine ⟨fun la ln lc i H' => ∃ (j : Nat) (rs : List Ry), i = j ∧ j ≤ (filesOf rows).length ∧ ln = rs.length ∧ rs.map Ry.rc = allJ rows j ∧
        SatL H' (slA 64 2 la rs.length lc (flat encR rs) :: rowsR rs :: slA 3 1 fa (filesOf rows).length fc ((filesOf rows).map I64) :: diskX db rows syn :: F), fun _ _ _ i _ => (filesOf rows).length - i.toNat, ⟨0, [], rfl, Nat.zero_le _, rfl, rfl, ?_⟩, ?_⟩
      · have h2 : SatL H' (rowsR [] :: slA 3 1 fa (filesOf rows).length fc ((filesOf rows).map I64) :: diskX db rows syn :: F) := satL_emp.2 h
        exact h2.sl_nil 64 2
      rintro la ln lc i H2 ⟨j, rs, rfl, hj, rfl, hrs, h⟩
      have hrl : rs.length ≤ rows.length := by
        have := congrArg List.length hrs
        rw [List.length_map] at this
        rw [this]
        exact allJ_le ok j
      unfold reel_Open.l1
      refine ⟨fun hx => ?_, fun hx => ?_⟩
      · have hlt : j < (filesOf rows).length := by simpa using hx
        have hr := (h.sl_rd 2 rfl).at hlt
        refine ⟨⟨by omega, by omega⟩, _, _, hr.1, _, hr.2, ?_⟩
        have hbl := bytesOf_length_le (filesOf rows)[j] rows
        refine Read_any (F := slA 64 2 la rs.length lc (flat encR rs) :: rowsR rs :: slA 3 1 fa (filesOf rows).length fc ((filesOf rows).map I64) :: F) hB (h.ordt [3, 0, 1, 2] 4 (by decide) (by decide)) fun a3 c3 e3 H3 h => ⟨_, _, _, _, rfl, ?_⟩
        refine scan_spec h (fun H h => h.sl_rd 0 rfl) (ok.bytes _) (by omega) fun qs a4 c4 H4 hqs h => ⟨_, _, _, _, rfl, ?_⟩
        have hsc := scanM_len (ok.bytes (filesOf rows)[j])
        have hnew : (rs ++ qs).map Ry.rc = allJ rows (j + 1) := by rw [allJ_succ hlt, List.map_append, hrs, hqs]
        have htot : rs.length + qs.length ≤ rows.length := by
          have := congrArg List.length hnew
          rw [List.length_map, List.length_append] at this
          rw [this]
          exact allJ_le ok (j + 1)
        refine SatL.append (m := qs.length) (ws := flat encR qs) sl54 h 4 rfl (h.sl_rd 0 rfl) (flat_length encR_len _) (flat_plain encR_plain _) (by omega) (by omega) fun a8 c8 H8 h => ⟨_, _, _, rfl, ?_⟩
        rw [w64 (x := (j : Int) + 1) (by omega) (by omega)]
        refine ⟨⟨j + 1, rs ++ qs, rfl, hlt, by rw [List.length_append], hnew, ?_⟩, by simp only [Int.toNat_natCast]; omega⟩
        have h2 := rowsR_join (h.ordt [5, 1, 4, 6, 3] 7 (by decide) (by decide))
        rw [flat_append, List.length_append]
        exact h2.ordt [1, 0, 2, 3] 4 (by decide) (by decide)
      · have hj2 : j = (filesOf rows).length := by simp at hx; omega
        subst hj2
        rw [allJ_all] at hrs
        refine h.al fun b1 H6 h => ?_
        have hk := k1 e rs la lc b1 H6 hrs
        have hlen : rs.length = (allM rows).length := by rw [← hrs, List.length_map]
        unfold reelA at hk
        dsimp only at hk
        rw [← hlen] at hk
        exact hk (h.ordt [0, 1, 2, 4] 5 (by decide) (by decide))
  refine ⟨fun hx => ?_, fun hx => ?_⟩
  · have hpos : 0 < (filesOf rows).length := by have := of_decide_eq_true hx; omega
    obtain ⟨n, hn⟩ : ∃ n, n + 1 = (filesOf rows).length := ⟨(filesOf rows).length - 1, by omega⟩
    obtain ⟨f, h1, h2, h3⟩ := segOf_cons hn
    have hf := ok.file h3
    have en : IntKind.i64.wrap (((filesOf rows).length : Int) - 1) = (n : Nat) := by rw [w64 (by omega) (by omega)]; omega
    have hlt : n < (filesOf rows).length := by omega
    have hr := (h.sl_rd 0 rfl).at hlt
    rw [en]
    have hg : (filesOf rows)[n] = f := by rw [List.getElem?_eq_getElem hlt] at h1; exact Option.some.inj h1
    rw [hg] at hr
    refine ⟨⟨by omega, by omega⟩, _, _, hr.1, _, hr.2, ?_⟩
    rw [w64 (x := f + 1) (by omega) (by omega), ← h2]
    exact rest _ h
  · have hz : (filesOf rows).length = 0 := by have := of_decide_eq_false hx; omega
    have := rest _ h
    rwa [segOf_nil hz] at this

theorem All_spec (ok : RowsOk rows) (hB : rows.length ≤ 1099511627776) (h : SatL H (refX db rows syn :: F))
    (k : ∀ (rs : List Ry) a c H', rs.map Ry.rc = allM rows → SatL H' (slA 124 2 a rs.length c (flat encR rs) :: rowsR rs :: refX db rows syn :: F) → K (.slice a rs.length c) H') :
    CallF Tryz.prog 44 #[.pointer (some ⟨db, 0, none⟩)] H K := by
  refine R11_All.call ?_
  unfold R11_All.code
  refine h.al fun b H1 h => ?_
  refine RFiles_spec (F := cellsA b [] 124 :: F) hB (h.ordt [1, 0] 2 (by decide) (by decide)) fun fa fc H1 h => ⟨_, _, _, rfl, ?_⟩
  have hfl := filesOf_length_le rows
  refine ⟨fun la ln lc i H' => ∃ (j : Nat) (rs : List Ry), i = j ∧ j ≤ (filesOf rows).length ∧ ln = rs.length ∧ rs.map Ry.rc = allJ rows j ∧
    SatL H' (slA 124 2 la rs.length lc (flat encR rs) :: rowsR rs :: slA 3 1 fa (filesOf rows).length fc ((filesOf rows).map I64) :: refX db rows syn :: F), fun _ _ _ i _ => (filesOf rows).length - i.toNat, ⟨0, [], rfl, Nat.zero_le _, rfl, rfl, ?_⟩, ?_⟩
  · have h1 := SatL.sl_pt (cs := []) (h.ordt [2, 0, 1] 3 (by decide) (by decide)) 2 0 rfl
    have h2 : SatL _ (rowsR [] :: _ :: _) := satL_emp.2 h1
    exact h2.ordt [1, 0] 2 (by decide) (by decide)
  rintro la ln lc i H2 ⟨j, rs, rfl, hj, rfl, hrs, h⟩
  have hrl : rs.length ≤ rows.length := by
    have := congrArg List.length hrs
    rw [List.length_map] at this
    rw [this]
    exact allJ_le ok j
  unfold R11_All.l1
  refine ⟨fun hx => ?_, fun hx => ?_⟩
  · have hlt : j < (filesOf rows).length := by simpa using hx
    have hr := (h.sl_rd 2 rfl).at hlt
    refine ⟨⟨by omega, by omega⟩, _, _, hr.1, _, hr.2, ?_⟩
    have hbl := bytesOf_length_le (filesOf rows)[j] rows
    refine RRead_spec (F := slA 124 2 la rs.length lc (flat encR rs) :: rowsR rs :: slA 3 1 fa (filesOf rows).length fc ((filesOf rows).map I64) :: F) hB (h.ordt [3, 0, 1, 2] 4 (by decide) (by decide)) fun a3 c3 H3 h => ⟨_, _, _, rfl, ?_⟩
    have hnc := h.sl_nc 0 rfl
    refine rscan_spec h (fun H h => h.sl_rd 0 rfl) (ok.bytes _) (by omega) hnc fun qs a4 c4 H4 hqs h => ⟨_, _, _, _, rfl, ?_⟩
    have hsc := scanM_len (ok.bytes (filesOf rows)[j])
    have hnew : (rs ++ qs).map Ry.rc = allJ rows (j + 1) := by rw [allJ_succ hlt, List.map_append, hrs, hqs]
    have htot : rs.length + qs.length ≤ rows.length := by
      have := congrArg List.length hnew
      rw [List.length_map, List.length_append] at this
      rw [this]
      exact allJ_le ok (j + 1)
    refine SatL.append (m := qs.length) (ws := flat encR qs) sl57 h 4 rfl (h.sl_rd 0 rfl) (flat_length encR_len _) (flat_plain encR_plain _) (by omega) (by omega) fun a8 c8 H8 h => ⟨_, _, _, rfl, ?_⟩
    rw [w64 (x := (j : Int) + 1) (by omega) (by omega)]
    refine ⟨⟨j + 1, rs ++ qs, rfl, hlt, by rw [List.length_append], hnew, ?_⟩, by simp only [Int.toNat_natCast]; omega⟩
    have h2 := rowsR_join (h.ordt [5, 1, 4, 6, 3] 7 (by decide) (by decide))
    rw [flat_append, List.length_append]
    exact h2.ordt [1, 0, 2, 3] 4 (by decide) (by decide)
  · have hj2 : j = (filesOf rows).length := by simp at hx; omega
    subst hj2
    rw [allJ_all] at hrs
    exact k rs la lc _ hrs (h.ordt [0, 1, 3] 4 (by decide) (by decide))

theorem ROpen_spec (ok : RowsOk rows) (hB : rows.length ≤ 1099511627776) (h : SatL H (refX db rows syn :: F))
    (k1 : openE most rows = 0 → ∀ (rs : List Ry) a c rb H', rs.map Ry.rc = allM rows → SatL H' (rreelA rb db (opS most rows) :: slA 124 2 a rs.length c (flat encR rs) :: rowsR rs :: refX db rows syn :: F) →
      K (.tuple #[.pointer (some ⟨rb, 0, none⟩), .slice a rs.length c, .int .i64 0]) H')
    (k2 : openE most rows ≠ 0 → ∀ H', SatL H' (refX db rows syn :: F) → K (.tuple #[.pointer none, .slice none 0 0, .int .i64 (openE most rows)]) H') :
    CallF Tryz.prog 22 #[.pointer (some ⟨db, 0, none⟩), .int .i64 most] H K := by
  refine R11_Open.call ?_
  unfold R11_Open.code
  refine ⟨fun hx => ?_, fun hx => ?_⟩
  · have hm : most < 64 ∨ 1048576 < most := by simpa using hx
    have e : openE most rows = 11 := by unfold openE; rw [if_pos hm]
    have := k2 (by rw [e]; decide) _ h
    rwa [e] at this
  have hm : ¬ (most < 64 ∨ 1048576 < most) := by simp at hx; omega
  have hsg := segOf_in ok
  refine RFiles_spec hB h fun fa fc H1 h => ⟨_, _, _, rfl, ?_⟩
  refine h.al fun b H2 h => ?_
  intro Jn hJ
  have hfl := filesOf_length_le rows
  have rest : ∀ H', SatL H' (cellsA b [.pointer (some ⟨db, 0, none⟩), .int .i64 most, .int .i64 (segOf rows), .int .i64 0, .int .i64 0] 53 :: slA 3 1 fa (filesOf rows).length fc ((filesOf rows).map I64) :: refX db rows syn :: F) → Jn H' := by
    intro H' h
    refine hJ _ ?_
    unfold R11_Open.r1
    refine ⟨_, h.rd 0 rfl _, fun hx => ?_, fun hx => ?_⟩
    · have hlt : 2147483647 < segOf rows := of_decide_eq_true hx
      have e : openE most rows = 20 := by unfold openE; rw [if_neg hm, if_pos hlt]
      have := k2 (by rw [e]; decide) _ h.tl.tl
      rwa [e] at this
    · have hge : ¬ 2147483647 < segOf rows := of_decide_eq_false hx
      have e : openE most rows = 0 := by unfold openE; rw [if_neg hm, if_neg hge]
      refine All_spec (F := cellsA b [.pointer (some ⟨db, 0, none⟩), .int .i64 most, .int .i64 (segOf rows), .int .i64 0, .int .i64 0] 53 :: F) ok hB (h.ordt [2, 0] 3 (by decide) (by decide)) fun rs a c H3 hrs h => ⟨_, _, _, rfl, ?_⟩
      refine h.st 3 rfl rfl fun H4 h => h.st 3 rfl rfl fun H5 h => ?_
      have hk := k1 e rs a c b H5 hrs
      have hlen : rs.length = (allM rows).length := by rw [← hrs, List.length_map]
      unfold rreelA at hk
      dsimp only at hk
      rw [← hlen] at hk
      exact hk (h.ordt [3, 0, 1, 2] 4 (by decide) (by decide))
  refine ⟨fun hx => ?_, fun hx => ?_⟩
  · have hpos : 0 < (filesOf rows).length := by have := of_decide_eq_true hx; omega
    obtain ⟨n, hn⟩ : ∃ n, n + 1 = (filesOf rows).length := ⟨(filesOf rows).length - 1, by omega⟩
    obtain ⟨f, h1, h2, h3⟩ := segOf_cons hn
    have hf := ok.file h3
    have en : IntKind.i64.wrap (((filesOf rows).length : Int) - 1) = (n : Nat) := by rw [w64 (by omega) (by omega)]; omega
    have hlt : n < (filesOf rows).length := by omega
    have hr := (h.sl_rd 1 rfl).at hlt
    rw [en]
    have hg : (filesOf rows)[n] = f := by rw [List.getElem?_eq_getElem hlt] at h1; exact Option.some.inj h1
    rw [hg] at hr
    refine ⟨⟨by omega, by omega⟩, _, _, hr.1, _, hr.2, ?_⟩
    rw [w64 (x := f + 1) (by omega) (by omega), ← h2]
    exact h.st 0 rfl rfl fun H3 h => rest _ h
  · have hz : (filesOf rows).length = 0 := by have := of_decide_eq_false hx; omega
    have := rest H2
    rw [segOf_nil hz] at this
    exact this h
end
end Go.Proofs.YtomdcdfcdeaabaaGreat
