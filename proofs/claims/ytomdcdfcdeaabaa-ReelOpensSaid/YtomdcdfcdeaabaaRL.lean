/-
  A reel's state, plainly; appending.
-/
import Derived.Test.YtomdcdfcdeaabaaRK
set_option linter.unusedVariables false
set_option linter.unusedSimpArgs false
namespace Go.Nm
open Go
def RowsOk (rows : DR) : Prop := ∀ r ∈ rows, (0 ≤ r.1 ∧ r.1 ≤ 2147483647) ∧ 0 ≤ r.2 ∧ r.2 < 256
theorem RowsOk.bytes {rows : DR} (h : RowsOk rows) (f : Int) : isBytes (bytesOf f rows) := by
  intro x hx
  unfold bytesOf at hx
  obtain ⟨r, hr, rfl⟩ := List.mem_map.1 hx
  exact (h r (List.mem_filter.1 hr).1).2
theorem RowsOk.app {rows : DR} (h : RowsOk rows) {f : Int} {bs : List Int} (hf : 0 ≤ f ∧ f ≤ 2147483647) (hb : isBytes bs) : RowsOk (rows ++ bs.map fun b => (f, b)) := by
  intro r hr
  rcases List.mem_append.1 hr with hr | hr
  · exact h r hr
  · obtain ⟨b, hb2, rfl⟩ := List.mem_map.1 hr
    exact ⟨hf, hb b hb2⟩
theorem RowsOk.take {rows : DR} (h : RowsOk rows) (n : Nat) : RowsOk (rows.take n) := fun r hr => h r (List.mem_of_mem_take hr)
theorem RowsOk.filter {rows : DR} (h : RowsOk rows) (p : Int × Int → Bool) : RowsOk (rows.filter p) := fun r hr => h r (List.mem_filter.1 hr).1
structure RL where
  most : Int
  seg : Int
  next : Nat
  syn : Nat
structure RL.ok (s : RL) : Prop where
  seg : 0 ≤ s.seg ∧ s.seg ≤ 2147483647
  most : 64 ≤ s.most ∧ s.most ≤ 1048576
  next : s.next ≤ 1099511627776
  syn : s.syn ≤ 1099511627776
def reelA (rb db : Nat) (s : RL) : Assn := cellsA rb [.pointer (some ⟨db, 0, none⟩), .int .i64 s.most, .int .i64 s.seg, .int .i64 s.next, .int .i64 s.syn] 127
def rreelA (rb db : Nat) (s : RL) : Assn := cellsA rb [.pointer (some ⟨db, 0, none⟩), .int .i64 s.most, .int .i64 s.seg, .int .i64 s.next, .int .i64 s.syn] 76
/-- Must the segment be turned? -/
def turns (rows : DR) (s : RL) (n : Nat) : Bool := decide (0 < (bytesOf s.seg rows).length) && decide (s.most < (((bytesOf s.seg rows).length + n : Nat) : Int))
def appE (rows : DR) (s : RL) (r : Rc) : Int :=
  if Go.Proofs.Ytomdcdfcdeaabaa.bytesE r.kind r.data.length ≠ 0 then Go.Proofs.Ytomdcdfcdeaabaa.bytesE r.kind r.data.length else if turns rows s (recB r).length = true ∧ s.seg = 2147483647 then 20 else 0
def appS (rows : DR) (s : RL) (r : Rc) : RL := if appE rows s r ≠ 0 then s else { s with seg := if turns rows s (recB r).length then s.seg + 1 else s.seg, next := s.next + 1 }
def appRows (rows : DR) (s : RL) (r : Rc) : DR := if appE rows s r ≠ 0 then rows else rows ++ (recB r).map fun b => ((appS rows s r).seg, b)
def appN (rows : DR) (s : RL) (r : Rc) : Int := if appE rows s r ≠ 0 then -1 else s.next
theorem appE_ok {rows : DR} {s : RL} {r : Rc} (hb : isBytes r.data) (h : appE rows s r = 0) : r.ok := by
  unfold appE at h
  split at h
  · rename_i h1; exact absurd h h1
  · rename_i h1
    obtain ⟨k, d⟩ := r
    exact Go.Proofs.Ytomdcdfcdeaabaa.bytesE_ok hb (Classical.not_not.1 h1)
theorem appS_seg {rows : DR} {s : RL} {r : Rc} (h : s.ok) : 0 ≤ (appS rows s r).seg ∧ (appS rows s r).seg ≤ 2147483647 := by
  have := h.seg
  unfold appS
  split
  · exact this
  · rename_i h1
    unfold appE at h1
    dsimp only
    split
    · rename_i ht
      split at h1
      · rename_i h2; exact absurd h2 h1
      · split at h1
        · exact absurd (by decide) h1
        · rename_i h3
          have : s.seg ≠ 2147483647 := fun e => h3 ⟨ht, e⟩
          omega
    · exact this
end Go.Nm
namespace Go.Proofs.Ytomdcdfcdeaabaa
open Go Go.Nm Go.Proofs
section
variable {F L : List Assn} {H : Heap} {K : Value → Heap → Prop} {rb db pb : Nat} {rows : DR} {syn : Nat} {s : RL}

theorem Read_any {f : Int} (hB : rows.length ≤ 1099511627776) (h : SatL H (diskX db rows syn :: F))
    (k : ∀ a c e H', SatL H' (slA 5 1 a (bytesOf f rows).length c ((bytesOf f rows).map U8) :: diskX db rows syn :: F) → K (.tuple #[.slice a (bytesOf f rows).length c, .int .i64 e]) H') :
    CallF Try.prog 18 #[.pointer (some ⟨db, 0, none⟩), .int .i64 f] H K := by
  refine Read_spec hB h (fun hz H' h => ?_) fun hz a c H' h => ?_
  · have := k none 0 23 H'
    rw [hz] at this
    exact this (h.sl_nil 5 1)
  · exact k a c 0 H' h

theorem gather_spec {a : Option Addr} {c : Nat} {parts : List Fy} (h : SatL H F) (ha : ∀ H, SatL H F → rdS H a (parts.map encY)) (hp : ∀ H, SatL H F → ∀ y ∈ parts, rdS H y.a (y.bs.map U8)) (hn : parts.length ≤ 1099511627776) (hl : (parts.flatMap Fy.bs).length ≤ 262144)
    (k : ∀ a' c' H', SatL H' (slA 5 1 a' (parts.flatMap Fy.bs).length c' ((parts.flatMap Fy.bs).map U8) :: F) → K (.slice a' (parts.flatMap Fy.bs).length c') H') :
    CallF Try.prog 80 #[.slice a parts.length c] H K := by
  refine reel_gather.call ?_
  unfold reel_gather.code
  intro Jn hJ
  have hpre : ∀ j, ((parts.take j).flatMap Fy.bs).length ≤ (parts.flatMap Fy.bs).length := by
    intro j
    conv => rhs; rw [← List.take_append_drop j parts, List.flatMap_append, List.length_append]
    omega
  refine ⟨fun oa on oc i H' => ∃ j : Nat, i = j ∧ j ≤ parts.length ∧ on = ((parts.take j).flatMap Fy.bs).length ∧ SatL H' (slA 5 1 oa ((parts.take j).flatMap Fy.bs).length oc (((parts.take j).flatMap Fy.bs).map U8) :: F), fun _ _ _ i _ => parts.length - i.toNat, ⟨0, rfl, Nat.zero_le _, rfl, h.sl_nil 5 1⟩, ?_⟩
  rintro oa on oc i H2 ⟨j, rfl, hj, rfl, h⟩
  have hpj := hpre j
  unfold reel_gather.l2
  refine ⟨fun hx => ?_, fun hx => ?_⟩
  · have hlt : j < parts.length := by simpa using hx
    have h1 := (ha _ h.tl).at hlt
    have h2 := hp _ h.tl _ (List.getElem_mem hlt)
    have hft := flat_take hlt
    have hpj1 := hpre (j + 1)
    rw [hft, List.length_append] at hpj1
    refine ⟨⟨by omega, by omega⟩, _, _, h1.1, _, _, _, h1.2, fun hc => ?_, fun _ => ?_⟩
    · have := of_decide_eq_true hc; omega
    · refine SatL.append (m := parts[j].bs.length) (ws := parts[j].bs.map U8) sl32 h 0 rfl h2 (by simp) (plain_map (fun _ => rfl) _) (by omega) (by omega) fun a8 c8 H8 h => ⟨_, _, _, rfl, ?_⟩
      rw [w64 (x := (j : Int) + 1) (by omega) (by omega)]
      refine ⟨⟨j + 1, rfl, hlt, by rw [hft, List.length_append], ?_⟩, by simp only [Int.toNat_natCast]; omega⟩
      rw [hft, List.length_append, List.map_append]
      exact h
  · have hj2 : j = parts.length := by simp at hx; omega
    subst hj2
    rw [List.take_length] at h ⊢
    refine hJ _ _ _ _ ?_
    unfold reel_gather.r1
    exact k _ _ _ h

theorem Next_spec (h : SatL H (reelA rb db s :: F)) : CallQ Try.prog 40 #[.pointer (some ⟨rb, 0, none⟩)] H (.int .i64 s.next) := by
  unfold CallQ
  refine reel_Next.call ?_
  unfold reel_Next.code
  exact ⟨_, h.rd 0 rfl _, rfl, rfl⟩
theorem Synced_spec (h : SatL H (reelA rb db s :: F)) : CallQ Try.prog 41 #[.pointer (some ⟨rb, 0, none⟩)] H (.int .i64 s.syn) := by
  unfold CallQ
  refine reel_Synced.call ?_
  unfold reel_Synced.code
  exact ⟨_, h.rd 0 rfl _, rfl, rfl⟩
theorem Segment_spec (h : SatL H (reelA rb db s :: F)) : CallQ Try.prog 42 #[.pointer (some ⟨rb, 0, none⟩)] H (.int .i64 s.seg) := by
  unfold CallQ
  refine reel_Segment.call ?_
  unfold reel_Segment.code
  exact ⟨_, h.rd 0 rfl _, rfl, rfl⟩
theorem Turn_spec (hs : 0 ≤ s.seg ∧ s.seg ≤ 2147483647) (h : SatL H (reelA rb db s :: F))
    (k1 : s.seg = 2147483647 → ∀ H', SatL H' (reelA rb db s :: F) → K (.tuple #[.int .i64 (-1), .int .i64 20]) H')
    (k2 : s.seg ≠ 2147483647 → ∀ H', SatL H' (reelA rb db { s with seg := s.seg + 1 } :: F) → K (.tuple #[.int .i64 (s.seg + 1), .int .i64 0]) H') :
    CallF Try.prog 45 #[.pointer (some ⟨rb, 0, none⟩)] H K := by
  refine reel_Turn.call ?_
  unfold reel_Turn.code
  refine ⟨_, h.rd 0 rfl _, fun hc => k1 (by simpa using hc) _ h, fun hc => ⟨_, h.rd 0 rfl _, ?_⟩⟩
  rw [w64 (x := s.seg + 1) (by omega) (by omega)]
  exact h.st 0 rfl rfl fun H' h => ⟨_, h.rd 0 rfl _, k2 (by simpa using hc) _ h⟩
theorem RSyncR_spec (h : SatL H (reelA rb db s :: diskX db rows syn :: F)) (k : ∀ H', SatL H' (reelA rb db { s with syn := s.next } :: diskX db rows rows.length :: F) → K (.tuple #[]) H') :
    CallF Try.prog 44 #[.pointer (some ⟨rb, 0, none⟩)] H K := by
  refine reel_Sync.call ?_
  unfold reel_Sync.code
  refine ⟨_, h.rd 0 rfl _, ?_⟩
  refine Sync_spec (F := reelA rb db s :: F) (h.ordt [1, 0] 2 (by decide) (by decide)) fun H1 h => ⟨rfl, _, h.rd 1 rfl _, ?_⟩
  exact h.st 1 rfl rfl fun H' h => k _ (h.ordt [1, 0] 2 (by decide) (by decide))

theorem AppendR_spec {a : Option Addr} {c : Nat} {parts : List Fy} {kind : Int} (hs : s.ok) (hB : rows.length ≤ 549755813888) (h : SatL H (reelA rb db s :: diskX db rows syn :: F))
    (ha : ∀ H, SatL H F → rdS H a (parts.map encY)) (hp : ∀ H, SatL H F → ∀ y ∈ parts, rdS H y.a (y.bs.map U8)) (hb : isBytes (parts.flatMap Fy.bs)) (hn : parts.length ≤ 1099511627776) (hl : (parts.flatMap Fy.bs).length ≤ 262144)
    (k : ∀ H', SatL H' (reelA rb db (appS rows s ⟨kind, parts.flatMap Fy.bs⟩) :: diskX db (appRows rows s ⟨kind, parts.flatMap Fy.bs⟩) syn :: F) →
      K (.tuple #[.int .i64 (appN rows s ⟨kind, parts.flatMap Fy.bs⟩), .int .i64 (appE rows s ⟨kind, parts.flatMap Fy.bs⟩)]) H') :
    CallF Try.prog 43 #[.pointer (some ⟨rb, 0, none⟩), .int .i64 kind, .slice a parts.length c] H K := by
  refine reel_Append.call ?_
  unfold reel_Append.code
  have hs1 := hs.seg
  have hs2 := hs.most
  have hs3 := hs.next
  refine gather_spec h (fun H h => ha H h.tl.tl) (fun H h => hp H h.tl.tl) hn hl fun a1 c1 H1 h => ⟨_, _, _, rfl, ?_⟩
  obtain ⟨d, hd⟩ : ∃ d, parts.flatMap Fy.bs = d := ⟨_, rfl⟩
  rw [hd] at hb hl h k ⊢
  refine Bytes_spec h (fun H h => h.sl_rd 0 rfl) (slA_is h) hb (by omega) (fun a2 c2 H2 he h => ⟨_, _, _, _, rfl, (fun hf => by cases hf), fun _ => ?_⟩) fun H2 he h => ⟨_, _, _, _, rfl, fun _ => ?_, fun hf => by simp [he] at hf⟩
  · have hrl := recB_len (bytesE_ok hb he)
    have hrb := recB_bytes (bytesE_ok hb he)
    dsimp only at hrl
    obtain ⟨r, hr⟩ : ∃ r : Rc, (⟨kind, d⟩ : Rc) = r := ⟨_, rfl⟩
    have he' : bytesE r.kind r.data.length = 0 := by rw [← hr]; exact he
    rw [hr] at h hrl hrb k ⊢
    have hfl := bytesOf_length_le s.seg rows
    refine ⟨_, h.rd 2 rfl _, _, h.rd 2 rfl _, ?_⟩
    refine Read_any (F := slA 5 1 a2 (recB r).length c2 ((recB r).map U8) :: slA 5 1 a1 d.length c1 (d.map U8) :: reelA rb db s :: F) (by omega) (h.ordt [3, 0, 1, 2] 4 (by decide) (by decide)) fun a3 c3 e3 H3 h => ⟨_, _, _, _, rfl, fun _ => trivial, _, fun _ => h.rd 4 rfl _, fun Jn hJ => ?_⟩
    have ew : IntKind.i64.wrap (((bytesOf s.seg rows).length : Int) + ((recB r).length : Int)) = (((bytesOf s.seg rows).length + (recB r).length : Nat) : Int) := by rw [w64 (by omega) (by omega)]; omega
    have et : (decide ((0 : Int) < ((bytesOf s.seg rows).length : Int)) && decide (s.most < (((bytesOf s.seg rows).length + (recB r).length : Nat) : Int))) = turns rows s (recB r).length := by
      unfold turns
      congr 1
      exact decide_eq_decide.2 (by omega)
    rw [ew, et]
    have hcore : ∀ g H', 0 ≤ g ∧ g ≤ 2147483647 → appE rows s r = 0 → appS rows s r = { s with seg := g, next := s.next + 1 } → SatL H' (reelA rb db { s with seg := g } :: diskX db rows syn :: slA 5 1 a2 (recB r).length c2 ((recB r).map U8) :: F) → reel_Append.r1 rb 0 K a2 (recB r).length c2 H' := by
      intro g H' hg e0 eS h
      unfold reel_Append.r1
      refine ⟨_, h.rd 0 rfl _, _, h.rd 0 rfl _, ?_⟩
      refine h.al fun b H4 h => ⟨h.rd 1 rfl _, h.rd 1 rfl _, ?_⟩
      have efl : ([⟨a2, c2, recB r⟩] : List Fy).flatMap Fy.bs = recB r := by simp
      refine Append_spec (F := cellsA b [.slice a2 (recB r).length c2] 32 :: reelA rb db { s with seg := g } :: slA 5 1 a2 (recB r).length c2 ((recB r).map U8) :: F) (pc := 1) (parts := [⟨a2, c2, recB r⟩]) (by rw [efl]; omega) (by simp) (fun H h => ⟨h.ce_rd 0 rfl, fun p hp => by
        rw [List.mem_singleton] at hp; subst hp; exact h.sl_rd 2 rfl⟩) (h.ordt [2, 0, 1, 3] 4 (by decide) (by decide)) (fun hf => absurd hf (by dsimp only; omega)) fun _ H5 h => ⟨_, rfl, (fun hf => by cases hf), fun _ => ⟨_, h.rd 2 rfl _, ?_⟩⟩
      rw [w64 (x := (s.next : Int) + 1) (by omega) (by omega)]
      refine h.st 2 rfl rfl fun H6 h => ⟨_, h.rd 2 rfl _, ?_⟩
      have hk := k H6
      rw [show appN rows s r = s.next by unfold appN; rw [if_neg (by rw [e0]; decide)], e0, show appRows rows s r = rows ++ (recB r).map (fun b => (g, b)) by unfold appRows; rw [if_neg (by rw [e0]; decide), eS], eS] at hk
      have en : IntKind.i64.wrap (((s.next : Int) + 1) - 1) = s.next := by rw [w64 (by omega) (by omega)]; omega
      rw [en]
      refine hk ?_
      have ha : appd g [(⟨a2, c2, recB r⟩ : Fy)] = (recB r).map (fun b => (g, b)) := by simp [appd]
      have h := h.ordt [2, 0] 4 (by decide) (by decide)
      rw [← ha]
      exact h
    have e0 : appE rows s r = if turns rows s (recB r).length = true ∧ s.seg = 2147483647 then 20 else 0 := by unfold appE; rw [if_neg (by rw [he']; decide)]
    refine ⟨fun ht => ?_, fun ht => ?_⟩
    · refine Turn_spec (F := slA 5 1 a3 (bytesOf s.seg rows).length c3 ((bytesOf s.seg rows).map U8) :: diskX db rows syn :: slA 5 1 a2 (recB r).length c2 ((recB r).map U8) :: slA 5 1 a1 d.length c1 (d.map U8) :: F) hs1 (h.ordt [4, 0, 1, 2, 3] 5 (by decide) (by decide)) (fun hm H4 h => ⟨_, _, rfl, fun _ => ?_, (fun hf => by cases hf)⟩) fun hm H4 h => ⟨_, _, rfl, (fun hf => by cases hf), fun _ => hJ _ ?_⟩
      · rw [if_pos ⟨ht, hm⟩] at e0
        have hk := k H4
        unfold appN appS appRows at hk
        rw [e0, if_pos (by decide), if_pos (by decide), if_pos (by decide)] at hk
        exact hk (h.ordt [0, 2] 5 (by decide) (by decide))
      · rw [if_neg (fun hh => hm hh.2)] at e0
        exact hcore (s.seg + 1) _ (by omega) e0 (by unfold appS; rw [if_neg (by rw [e0]; decide), if_pos ht]) (h.ordt [0, 2, 3] 5 (by decide) (by decide))
    · have htf : turns rows s (recB r).length = false := ht
      rw [if_neg (fun hh => by rw [hh.1] at htf; cases htf)] at e0
      exact hJ _ (hcore s.seg _ hs1 e0 (by unfold appS; rw [if_neg (by rw [e0]; decide), htf]; rfl) (h.ordt [4, 1, 2] 5 (by decide) (by decide)))
  · have e0 : appE rows s ⟨kind, d⟩ = bytesE kind d.length := by unfold appE; dsimp only; rw [if_pos he]
    have hk := k H2
    unfold appN appS appRows at hk
    rw [e0, if_pos he, if_pos he, if_pos he] at hk
    exact hk (h.ordt [1, 2] 3 (by decide) (by decide))
end
end Go.Proofs.Ytomdcdfcdeaabaa
