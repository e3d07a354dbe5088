/-
  HoldAll.
-/
import Derived.Test.YtfgabhogcbmhoaaH8
set_option linter.unusedVariables false
set_option linter.unusedSimpArgs false
namespace Go.Nm
open Go

/-- The numbers that have come: those that are ready, and those that wait. -/
def Come (next : Int) (s : HS) (S : List Int) : Prop := ∀ y : Int, ((next ≤ y ∧ y < s.next) ∨ y ∈ keysOf s.rows) ↔ (y - next) ∈ S

theorem all_step {s : HS} {next x : Int} {S : List Int} (ok : s.Ok) (ht : ToldR s.rows) (hm : s.most = 256) (h0 : 0 ≤ next ∧ next ≤ 1099511627776) (hnn : next ≤ s.next) (hS : Come next s S) (hx : 0 ≤ x ∧ x < 100) (hnot : x ∉ S) :
    ∃ s' ready, s.offer (next + x) [next + x] = (s', ready, 0) ∧ s'.most = s.most ∧ ToldR s'.rows ∧ ready = iota s.next ready.length ∧ s'.next = s.next + ready.length ∧ Come next s' (S ++ [x]) := by
  have h1 := hS (next + x)
  rw [show next + x - next = x by omega] at h1
  have h2 : ¬ ((next ≤ next + x ∧ next + x < s.next) ∨ next + x ∈ keysOf s.rows) := fun h => hnot (h1.1 h)
  have h3 : mlook (next + x) s.rows = none := mlook_none.2 fun h => h2 (.inr h)
  have h4 : s.next ≤ next + x := by
    by_cases h : next + x < s.next
    · exact absurd (.inl ⟨by omega, h⟩) h2
    · omega
  refine ⟨_, _, offer_new ok h4 (by omega) (by omega) h3, rfl, ?_, ?_, ?_, ?_⟩
  · refine (pop_told (next := s.next) ?_).2
    intro p hp
    rcases mem_ins.1 hp with rfl | hp
    · rfl
    · exact ht p hp
  · refine (pop_told (next := s.next) ?_).1
    intro p hp
    rcases mem_ins.1 hp with rfl | hp
    · rfl
    · exact ht p hp
  · have hr := rising_ins (v := next + x) ok.rows.rising h3
    exact (pop_spec hr fun p hp => by
      rcases mem_ins.1 hp with rfl | hp
      · exact h4
      · have := (ok.rows.inb p hp).1; omega).2.1
  · intro y
    have hr := rising_ins (v := next + x) ok.rows.rising h3
    have hb : ∀ p ∈ ins (next + x) (next + x) s.rows, s.next ≤ p.1 := fun p hp => by
      rcases mem_ins.1 hp with rfl | hp
      · exact h4
      · have := (ok.rows.inb p hp).1; omega
    have h5 := pop_keys hr hb y
    have h6 : y ∈ keysOf (ins (next + x) (next + x) s.rows) ↔ y = next + x ∨ y ∈ keysOf s.rows := by
      have := ((ins_perm (next + x) (next + x) s.rows).map Prod.fst).mem_iff (a := y)
      simpa [keysOf] using this
    have h7 := hS y
    have h8 := (pop_spec hr hb).1
    simp only [List.mem_append, List.mem_singleton]
    rw [← h7]
    constructor
    · rintro (⟨a, b⟩ | a)
      · by_cases e : y < s.next
        · exact .inl (.inl ⟨a, e⟩)
        · rcases h6.1 (h5.1 (.inl ⟨by omega, b⟩)) with h | h
          · right; omega
          · exact .inl (.inr h)
      · rcases h6.1 (h5.1 (.inr a)) with h | h
        · right; omega
        · exact .inl (.inr h)
    · rintro ((⟨a, b⟩ | a) | a)
      · exact .inl ⟨a, by omega⟩
      · rcases h5.2 (h6.2 (.inr a)) with h | h
        · exact .inl ⟨by omega, h.2⟩
        · exact .inr h
      · rcases h5.2 (h6.2 (.inl (show y = next + x by omega))) with h | h
        · exact .inl ⟨by omega, h.2⟩
        · exact .inr h
theorem all_again {s : HS} {next x : Int} {S : List Int} (ok : s.Ok) (h0 : 0 ≤ next ∧ next ≤ 1099511627776) (hS : Come next s S) (hx : 0 ≤ x ∧ x < 100) (hin : x ∈ S) (v : Int) : s.offer (next + x) [v] = (s, [], 0) := by
  refine offer_old ok (by omega) (by omega) ?_
  rcases (hS (next + x)).2 (by rw [show next + x - next = x by omega]; exact hin) with h | h
  · exact .inl h.2
  · right
    cases hm : mlook (next + x) s.rows with
    | none => exact absurd h (mlook_none.1 hm)
    | some u => rfl
theorem all_done {s : HS} {next : Int} {n : Nat} {S : List Int} (ok : s.Ok) (hnn : next ≤ s.next) (hS : Come next s S) (hn : ∀ z, z ∈ S ↔ 0 ≤ z ∧ z < n) : s.next = next + n ∧ s.rows = [] := by
  have h1 : ¬ (s.next - next ∈ S) := fun h => by
    rcases (hS s.next).2 h with h | h
    · omega
    · obtain ⟨p, hp, e⟩ := List.mem_map.1 h
      have := (ok.rows.inb p hp).1
      omega
  rw [hn] at h1
  have h2 : s.next ≤ next + n := by
    by_cases e : s.next = next
    · omega
    · have := (hn _).1 ((hS (s.next - 1)).1 (.inl ⟨by omega, by omega⟩))
      omega
  have h3 : s.next = next + n := by omega
  refine ⟨h3, ?_⟩
  cases hr : s.rows with
  | nil => rfl
  | cons p r =>
    have h4 := (ok.rows.inb p (by rw [hr]; simp)).1
    have := (hn _).1 ((hS p.1).1 (.inr (by rw [hr]; simp [keysOf])))
    omega
theorem all_le {s : HS} {next : Int} {n : Nat} {S : List Int} (hnn : next ≤ s.next) (hS : Come next s S) (hn : ∀ z ∈ S, z < n) : s.next ≤ next + n := by
  by_cases e : s.next = next
  · omega
  · have := hn _ ((hS (s.next - 1)).1 (.inl ⟨by omega, by omega⟩))
    omega
theorem mem_iota {a z : Int} : ∀ {n : Nat}, z ∈ iota a n ↔ a ≤ z ∧ z < a + n
  | 0 => by simp [iota]; try omega
  | n + 1 => by
    rw [iota_snoc, List.mem_append, mem_iota (n := n)]
    simp only [List.mem_singleton]
    omega
theorem iota_nodup (a : Int) : ∀ n, (iota a n).Nodup
  | 0 => List.nodup_nil
  | n + 1 => by
    rw [iota, List.nodup_cons]
    exact ⟨fun h => by have := mem_iota.1 h; omega, iota_nodup (a + 1) n⟩
end Go.Nm
namespace Go.Proofs.Ytfgabhogcbmhoaa
open Go Go.Nm Go.Proofs

section
variable {H0 : Heap} {next : Int} {oa : Option Addr} {oc : Nat} {order : List Int} {twice : Bool}

/-- The items come, one after the other. -/
theorem HoldAll_items {hb mb : Nat} {H : Heap} {aa : Option Addr} {ac : Nat} {all : List Int} {K : Value → Heap → Prop} {r2 : Int} (hn : 0 ≤ next ∧ next ≤ 1099511627776) (hl : order.length ≤ 100) (hp : all.Perm (iota 0 order.length))
    (h : SatL H [old H0, holdC hb mb next 256, mapI mb [], slA 2 1 aa all.length ac (all.map I64)]) (k : ∀ H', Grow H0 H' → K (.bool true) H') :
    ∃ (Inv2 : (Option Addr) → Nat → Nat → Int → Heap → Prop) (mu2 : (Option Addr) → Nat → Nat → Int → Heap → Nat), Inv2 (some ⟨H.size, 0, none⟩) 0 0 0 (H.push (.cells #[] 2)) ∧
    ∀ (gota : Option Addr) (gotn : Nat) (gotc : Nat) (i2 : Int), ∀ H_5 : Heap, Inv2 gota gotn gotc i2 H_5 → HoldAll.l4 next order.length twice K (some ⟨hb, 0, none⟩) r2 aa all.length Inv2 mu2 gota gotn gotc i2 H_5 := by
  have hal : all.length = order.length := by rw [hp.length_eq, iota_length]
  have hnd : all.Nodup := hp.nodup_iff.2 (iota_nodup _ _)
  have hmem : ∀ z, z ∈ all ↔ 0 ≤ z ∧ z < order.length := fun z => by rw [hp.mem_iff, mem_iota]; omega
  refine ⟨fun ga gn gc i H' => ∃ (j : Nat) (s : HS) (got : List Int), i = j ∧ j ≤ all.length ∧ got.length = gn ∧ s.Ok ∧ s.most = 256 ∧ ToldR s.rows ∧ next ≤ s.next ∧ got = iota next got.length ∧ s.next = next + got.length ∧ Come next s (all.take j) ∧
      SatL H' [slA 2 1 ga gn gc (got.map I64), old H0, holdC hb mb s.next 256, mapI mb s.rows, slA 2 1 aa all.length ac (all.map I64)],
    fun _ _ _ i _ => all.length - i.toNat, ⟨0, ⟨next, 256, []⟩, [], rfl, Nat.zero_le _, rfl, ⟨by simp only; omega, by simp, by simp, ⟨by simp [Rising], by simp⟩⟩, rfl, by simp [ToldR], by simp, rfl, by simp, ?_, SatL.sl_pt (cs := []) (h.push (.cells #[] 2)) 1 0 rfl⟩, ?_⟩
  · intro y; simp [keysOf]; try omega
  rintro ga gn gc i H1 ⟨j, s, got, rfl, hj, rfl, ok, hm, ht, hnn, hgot, hsn, hcome, h1⟩
  have hm2 := ok.most2
  unfold HoldAll.l4
  refine ⟨fun hc => ?_, fun hc => ?_⟩
  · have hlt : j < all.length := by simpa using hc
    have hx := (hmem all[j]).1 (List.getElem_mem hlt)
    have hrd := (h1.sl_rd 4 rfl).at hlt
    have hnot : all[j] ∉ all.take j := fun hin => by
      obtain ⟨q, hq, e⟩ := List.getElem_of_mem hin
      simp only [List.length_take] at hq
      simp only [List.getElem_take] at e
      have := List.pairwise_iff_getElem.1 hnd q j (by omega) hlt (by omega)
      exact this e
    obtain ⟨s', ready, e, hm', ht', hready, hsn', hcome'⟩ := all_step ok ht hm hn hnn hcome (x := all[j]) (by omega) hnot
    have e3 : IntKind.i64.wrap ((j : Int) + 1) = ((j + 1 : Nat) : Int) := w64 (by omega) (by omega)
    have e4 : IntKind.i64.wrap (next + all[j]) = next + all[j] := w64 (by omega) (by omega)
    have htake : all.take j ++ [all[j]] = all.take (j + 1) := (List.take_succ_eq_append_getElem hlt).symm
    rw [htake] at hcome'
    refine ⟨⟨by omega, by omega⟩, _, _, hrd.1, _, hrd.2, ⟨by omega, by omega⟩, _, _, hrd.1, _, hrd.2, cellAt_push hrd.2, ?_⟩
    rw [e4]
    have h2 : SatL _ (cellsA H1.size [I64 (next + all[j])] 2 :: _) := h1.push (.cells #[I64 (next + all[j])] 2)
    rw [← hm] at h2
    have hle : s.next ≤ next + order.length := all_le hnn hcome fun z hz => ((hmem z).1 (List.mem_of_mem_take hz)).2
    have hin : all[j] ∈ all.take (j + 1) := by rw [← htake]; exact List.mem_append_right _ (List.mem_singleton.2 rfl)
    have hgl : (got ++ ready).length ≤ 1000 := by simp only [List.length_append]; have := all_le (s := s') (next := next) (n := order.length) (by omega) hcome' fun z hz => ((hmem z).1 (List.mem_of_mem_take hz)).2; omega
    have hgl2 := hgl
    simp only [List.length_append] at hgl2
    have hgot' : got ++ ready = iota next (got ++ ready).length := by
      rw [List.length_append, ← iota_append, ← hgot, ← hsn, ← hready]
    refine Offer_spec' e (items := [next + all[j]]) (h2.ordt [3, 4, 0, 1, 2, 5] 6 (by decide) (by decide)) ok (by omega) (fun H h => h.ce_rd 0 rfl) (by simp) fun a c H2 ok2 o2 o3 h3 => ⟨_, _, _, _, rfl, ?_⟩
    rw [hm', hm] at h3
    refine SatL.append sl32 h3 4 rfl (h3.sl_rd 0 rfl) (by simp) (plain_ints _ _) (by omega) (by omega) fun a' c' H3 h4 => ⟨_, _, _, rfl, ?_⟩
    have h5 : SatL H3 [slA 2 1 a' (got.length + ready.length) c' (got.map I64 ++ ready.map I64), old H0, holdC hb mb s'.next 256, mapI mb s'.rows, slA 2 1 aa all.length ac (all.map I64)] := h4.ordt [4, 5, 1, 2, 6] 7 (by decide) (by decide)
    rw [← List.map_append] at h5
    intro Jn hJ
    have fin : ∀ H', SatL H' [slA 2 1 a' (got.length + ready.length) c' ((got ++ ready).map I64), old H0, holdC hb mb s'.next 256, mapI mb s'.rows, slA 2 1 aa all.length ac (all.map I64)] → Jn 0 H' := by
      intro H' h'
      refine hJ _ _ ?_
      unfold HoldAll.r1
      refine ⟨fun hb => by simp at hb, fun _ => ?_⟩
      rw [e3]
      exact ⟨⟨j + 1, s', got ++ ready, rfl, hlt, by simp, ok2, by rw [hm', hm], ht', by omega, hgot', by rw [hsn', hsn, List.length_append]; omega, hcome', h'⟩, by simp only [Int.toNat_natCast]; omega⟩
    refine ⟨fun _ => ?_, fun _ => fin _ h5⟩
    have hrd5 := (h5.sl_rd 4 rfl).at hlt
    refine ⟨⟨by omega, by omega⟩, _, _, hrd5.1, _, hrd5.2, ?_⟩
    rw [e4]
    have h6 : SatL _ (cellsA H3.size [I64 (-1)] 2 :: _) := h5.push (.cells #[I64 (-1)] 2)
    have e256 : (256 : Int) = s'.most := by rw [hm', hm]
    rw [e256] at h6
    refine Offer_spec' (all_again ok2 hn hcome' (by omega) hin (-1)) (items := [-1]) (h6.ordt [3, 4, 0, 1, 2, 5] 6 (by decide) (by decide)) ok2 (by omega) (fun H h => h.ce_rd 0 rfl) (by simp) fun a7 c7 H7 _ _ _ h7 => ⟨_, _, _, _, rfl, ?_⟩
    rw [← e256] at h7
    exact fin _ (h7.ordt [4, 5, 1, 2, 6] 7 (by decide) (by decide))
  · obtain rfl : j = all.length := by
      have : ¬ ((j : Int) < all.length) := by simpa using hc
      omega
    rw [List.take_of_length_le (Nat.le_refl _)] at hcome
    obtain ⟨d1, d2⟩ := all_done ok hnn hcome hmem
    have hgl : got.length = order.length := by omega
    refine ⟨fun i H' => ∃ q : Nat, i = q ∧ q ≤ order.length ∧ H' = H1, fun i _ => order.length - i.toNat, ⟨0, rfl, Nat.zero_le _, rfl⟩, ?_⟩
    rintro i H' ⟨q, rfl, hq, rfl⟩
    unfold HoldAll.l3
    refine ⟨fun hc3 => ?_, fun _ => ?_⟩
    · have hltq : q < order.length := by simpa using hc3
      have hrd := (h1.sl_rd 0 rfl).at (j := q) (by omega)
      have ev : got[q]'(by omega) = next + q := by
        have : got[q]? = (iota next got.length)[q]? := by rw [← hgot]
        rw [List.getElem?_eq_getElem (by omega), List.getElem?_eq_getElem (by simp; omega), iota_get] at this
        exact Option.some.inj this
      have e3 : IntKind.i64.wrap ((q : Int) + 1) = ((q + 1 : Nat) : Int) := w64 (by omega) (by omega)
      have e4 : IntKind.i64.wrap (next + (q : Int)) = next + q := w64 (by omega) (by omega)
      rw [e3, e4]
      refine ⟨fun _ => ⟨by omega, by omega⟩, _, _, fun _ => hrd.1, _, fun _ => hrd.2, fun hb => ?_, fun _ => ?_⟩
      · rw [ev] at hb; simp at hb; omega
      · exact ⟨⟨q + 1, rfl, hltq, rfl⟩, by simp only [Int.toNat_natCast]; omega⟩
    · intro Jn hJ
      have e5 : IntKind.i64.wrap (next + (order.length : Int)) = next + order.length := w64 (by omega) (by omega)
      refine ⟨_, fun _ => Next_spec h1 2 rfl, fun _ => ?_, fun hb => absurd ?_ hb⟩
      · rw [d2] at h1
        refine Waiting_spec (rows := []) (h1.ordt [2, 3, 0, 1, 4] 5 (by decide) (by decide)) (by simp [Rising]) (by simp) (by simp) fun a c H2 h2 _ => ⟨_, _, _, rfl, hJ _ _ ?_⟩
        unfold HoldAll.r2
        exact k _ (h2.old_grow 4 rfl)
      · rw [e5, hgl, d1]; simp

set_option maxHeartbeats 1000000 in
theorem HoldAll_true (ho : rdS H0 oa (order.map (Value.int .u8))) (hw : ∀ v ∈ order, 0 ≤ v ∧ v ≤ 255) :
    CallF Try.prog 5 #[I64 next, .slice oa order.length oc, .bool twice] H0 fun v H' => v = .bool true ∧ Grow H0 H' := by
  refine HoldAll.call ?_
  unfold HoldAll.code
  refine alive_spec (start H0) fun H1 h1 => ⟨_, rfl, fun hb => by simp at hb, fun _ => ⟨fun _ => ⟨rfl, h1.old_grow 0 rfl⟩, fun hc => ?_⟩⟩
  have hc : order.length ≤ 100 ∧ 0 ≤ next ∧ next ≤ 1099511627776 := by simp at hc; omega
  obtain ⟨hl, hn⟩ := hc
  refine New_spec h1 (fun hbad => absurd hbad (by omega)) fun hb mb H2 ok hn2 h2 => ⟨_, _, rfl, fun hb => by simp at hb, fun _ => ?_⟩
  refine ⟨fun aa an ac i H' => ∃ j : Nat, i = j ∧ j = an ∧ j ≤ order.length ∧ SatL H' [slA 2 1 aa j ac ((iota 0 j).map I64), old H0, holdC hb mb next 256, mapI mb []],
    fun _ _ _ i _ => order.length - i.toNat, ⟨0, rfl, rfl, Nat.zero_le _, SatL.sl_pt (cs := []) ((h2.ordt [2, 0, 1] 3 (by decide) (by decide)).push (.cells #[] 2)) 1 0 rfl⟩, ?_⟩
  rintro aa an ac i H3 ⟨j, rfl, rfl, hj, h3⟩
  unfold HoldAll.l6
  refine ⟨fun hc2 => ?_, fun hc2 => ?_⟩
  · have hlt : j < order.length := by simpa using hc2
    have e3 : IntKind.i64.wrap ((j : Int) + 1) = ((j + 1 : Nat) : Int) := w64 (by omega) (by omega)
    refine h3.append1 sl32 0 rfl (by rfl) (by rfl) (by omega) (by omega) fun a' c' H4 h4 => ⟨_, _, _, rfl, ?_⟩
    rw [e3]
    refine ⟨⟨j + 1, rfl, rfl, hlt, ?_⟩, by simp only [Int.toNat_natCast]; omega⟩
    rw [iota_snoc, List.map_append, Int.zero_add]
    exact h4
  · obtain rfl : j = order.length := by
      have : ¬ ((j : Int) < order.length) := by simpa using hc2
      omega
    refine ⟨fun i H' => ∃ (q : Nat) (all : List Int), i = q ∧ q ≤ order.length ∧ all.Perm (iota 0 order.length) ∧ SatL H' [old H0, holdC hb mb next 256, mapI mb [], slA 2 1 aa order.length ac (all.map I64)],
      fun i _ => order.length - i.toNat, ⟨0, iota 0 order.length, rfl, Nat.zero_le _, .refl _, h3.ordt [1, 2, 3, 0] 4 (by decide) (by decide)⟩, ?_⟩
    rintro i H4 ⟨q, all, rfl, hq, hp, h4⟩
    have hal : all.length = order.length := by rw [hp.length_eq, iota_length]
    unfold HoldAll.l5
    refine ⟨fun hc3 => ?_, fun hc3 => ?_⟩
    · have hlt : q < order.length := by simpa using hc3
      have hrd := (h4.old_rd 0 rfl ho).at hlt
      have hv := hw _ (List.getElem_mem hlt)
      have e1 : IntKind.i64.wrap ((order.length : Int) - q) = ((order.length - q : Nat) : Int) := by rw [w64 (by omega) (by omega)]; omega
      have e2 : IntKind.i64.wrap order[q] = order[q] := w64 (by omega) (by omega)
      have t1 : 0 ≤ Int.tmod order[q] ((order.length - q : Nat) : Int) := Int.tmod_nonneg _ hv.1
      have t2 : Int.tmod order[q] ((order.length - q : Nat) : Int) < ((order.length - q : Nat) : Int) := Int.tmod_lt_of_pos _ (by omega)
      obtain ⟨d, hd⟩ : ∃ d : Nat, Int.tmod order[q] ((order.length - q : Nat) : Int) = d := ⟨_, (Int.toNat_of_nonneg t1).symm⟩
      have e3 : IntKind.i64.wrap ((q : Int) + 1) = ((q + 1 : Nat) : Int) := w64 (by omega) (by omega)
      have e4 : IntKind.i64.wrap ((q : Int) + (d : Int)) = ((q + d : Nat) : Int) := by rw [w64 (by omega) (by omega)]; omega
      simp only [e1, e2, hd, e3, e4]
      have hr1 := (h4.sl_rd 3 rfl).at (j := q + d) (by omega)
      have hr2 := (h4.sl_rd 3 rfl).at (j := q) (by omega)
      obtain ⟨_, c1, h5⟩ := h4.sl_set 3 rfl q [I64 all[q + d]] (by simp; omega) (by simp)
      obtain ⟨_, c2, h6⟩ := SatL.sl_set h5 3 rfl (q + d) [I64 all[q]] (by simp [setsL]; omega) (by simp)
      refine ⟨⟨by omega, by omega⟩, _, _, hrd.1, _, hrd.2, ?_⟩
      rw [e2, hd, e4]
      refine ⟨by omega, ⟨by omega, by omega⟩, _, _, hr1.1, _, hr1.2, ⟨by omega, by omega⟩, _, _, hr2.1, _, hr2.2, ⟨by omega, by omega⟩, _, _, hr1.1, c1, ⟨by omega, by omega⟩, _, _, hr1.1, c2, ⟨q + 1, (all.set q all[q + d]).set (q + d) all[q], rfl, hlt, ?_, ?_⟩, by simp only [Int.toNat_natCast]; omega⟩
      · exact (List.set_set_perm (by omega) (by omega)).trans hp
      · have : setsL (setsL (all.map I64) q [I64 all[q + d]]) (q + d) [I64 all[q]] = ((all.set q all[q + d]).set (q + d) all[q]).map I64 := by
          simp only [setsL, List.map_set]
        rw [← this]; exact h6
    · rw [← hal] at h4
      have := HoldAll_items (twice := twice) (r2 := 0) (K := fun v H' => v = .bool true ∧ Grow H0 H') hn hl hp h4 fun H' g => ⟨rfl, g⟩
      rw [hal] at this
      exact this
end
end Go.Proofs.Ytfgabhogcbmhoaa
namespace Go.Proofs.Ytfgabhogcbmhoaa
open Go Go.Nm Go.Proofs
theorem reads_bytes8 {H : Type} {enc : TypeId × Value → H} {W : World} {cs : List Value} (h : Reads enc Try.prog W 46 cs) :
    ∃ a c xs, cs = [.slice a (List.length xs) c] ∧ xs.length ≤ maxLen ∧ rdS W.heap a (xs.map (Value.int .u8)) ∧ ∀ x ∈ xs, 0 ≤ x ∧ x ≤ 255 := by
  have c5 : Try.prog.cellsOf 5 = 1 := by kernel_rfl
  obtain ⟨a, c, xs, h1, h2, h3, h4⟩ := reads_rows (ec := fun x : Int => [Value.int .u8 x]) (Q := fun x => 0 ≤ x ∧ x ≤ 255) Try.underlying46 c5 (by decide) h (fun us hu _ => by
    obtain ⟨n, e, b1, b2⟩ := reads_int Try.underlying5 hu
    exact ⟨n, e, b1, b2⟩) (fun _ => rfl)
  rw [flat_ones] at h3
  exact ⟨a, c, xs, h1, h2, h3, h4⟩
end Go.Proofs.Ytfgabhogcbmhoaa
