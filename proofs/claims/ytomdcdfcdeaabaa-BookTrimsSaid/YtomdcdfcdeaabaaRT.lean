/-
  Calls on a reel: both sides by one model. ReelCalls, ReelOpens.
-/
import Derived.Test.YtomdcdfcdeaabaaRQ
set_option linter.unusedVariables false
set_option linter.unusedSimpArgs false
namespace Go.Nm
open Go
structure RD where
  what : Int
  kind : Int
  n : Int
  a : Option Addr
  c : Nat
  bs : List Int
abbrev encD (x : RD) : List Value := [.int .i64 x.what, .int .i64 x.kind, .int .i64 x.n, .slice x.a x.bs.length x.c]
theorem encD_len (x : RD) : (encD x).length = 4 := rfl
/-- What holds behind j calls. -/
structure TI (most : Int) (rows : DR) (syn : Nat) (s : RL) (j : Nat) : Prop where
  rok : RowsOk rows
  files : ∀ r ∈ rows, r.1 ≤ s.seg
  syn : syn ≤ rows.length
  seg0 : 0 ≤ s.seg
  seg : s.seg ≤ j
  len : rows.length ≤ 300 * j
  next : s.next ≤ 300 * j
  ssyn : s.syn ≤ 300 * j
  hm : s.most = most
  range : 64 ≤ most ∧ most ≤ 1048576
theorem TI.ok {most : Int} {rows : DR} {syn : Nat} {s : RL} {j : Nat} (h : TI most rows syn s j) (hj : j ≤ 1000) : s.ok := by
  have h1 := h.seg0
  have h2 := h.seg
  have h3 := h.next
  have h4 := h.ssyn
  have h5 := h.hm
  have h6 := h.range
  exact ⟨by omega, by omega, by omega, by omega⟩
theorem TI.mono {most : Int} {rows : DR} {syn : Nat} {s : RL} {j : Nat} (h : TI most rows syn s j) : TI most rows syn s (j + 1) :=
  ⟨h.rok, h.files, h.syn, h.seg0, by have := h.seg; omega, by have := h.len; omega, by have := h.next; omega, by have := h.ssyn; omega, h.hm, h.range⟩
theorem appS_seg2 {rows : DR} {s : RL} {r : Rc} : s.seg ≤ (appS rows s r).seg ∧ (appS rows s r).seg ≤ s.seg + 1 ∧ (appS rows s r).next ≤ s.next + 1 ∧ (appS rows s r).syn = s.syn ∧ (appS rows s r).most = s.most := by
  unfold appS
  split
  · exact ⟨by omega, by omega, by omega, rfl, rfl⟩
  · dsimp only
    split <;> exact ⟨by omega, by omega, by omega, rfl, rfl⟩
theorem TI.append {most : Int} {rows : DR} {syn : Nat} {s : RL} {j : Nat} (h : TI most rows syn s j) (hj : j ≤ 1000) {r : Rc} (hb : isBytes r.data) (hl : r.data.length ≤ 200) :
    TI most (appRows rows s r) syn (appS rows s r) (j + 1) := by
  have hs := appS_seg2 (rows := rows) (s := s) (r := r)
  have hr := appS_seg (rows := rows) (r := r) (h.ok hj)
  have h1 := h.seg0
  have h2 := h.seg
  have h3 := h.next
  have h4 := h.ssyn
  have h5 := h.len
  have h6 := h.files
  have h7 := h.syn
  by_cases he : appE rows s r = 0
  · have hok := appE_ok hb he
    have hrl := recB_len hok
    have e : appRows rows s r = rows ++ (recB r).map fun b => ((appS rows s r).seg, b) := by unfold appRows; rw [if_neg (by rw [he]; decide)]
    rw [e]
    refine ⟨h.rok.app hr (recB_bytes hok), fun x hx => ?_, by rw [List.length_append]; omega, by omega, by omega, by rw [List.length_append, List.length_map]; omega, by omega, by omega, by rw [hs.2.2.2.2]; exact h.hm, h.range⟩
    rcases List.mem_append.1 hx with hx | hx
    · have := h6 x hx; omega
    · obtain ⟨b, _, rfl⟩ := List.mem_map.1 hx
      exact Int.le_refl _
  · have e : appRows rows s r = rows := by unfold appRows; rw [if_pos he]
    have e2 : appS rows s r = s := by unfold appS; rw [if_pos he]
    rw [e, e2]
    exact h.mono
theorem TI.sync {most : Int} {rows : DR} {syn : Nat} {s : RL} {j : Nat} (h : TI most rows syn s j) : TI most rows rows.length { s with syn := s.next } (j + 1) :=
  ⟨h.rok, h.files, Nat.le_refl _, h.seg0, by have := h.seg; dsimp only; omega, by have := h.len; omega, by have := h.next; dsimp only; omega, by have := h.next; dsimp only; omega, h.hm, h.range⟩
theorem TI.turn {most : Int} {rows : DR} {syn : Nat} {s : RL} {j : Nat} (h : TI most rows syn s j) : TI most rows syn { s with seg := s.seg + 1 } (j + 1) :=
  ⟨h.rok, fun r hr => by have := h.files r hr; dsimp only; omega, h.syn, by have := h.seg0; dsimp only; omega, by have := h.seg; dsimp only; omega, by have := h.len; omega, by have := h.next; dsimp only; omega, by have := h.ssyn; dsimp only; omega, h.hm, h.range⟩
theorem TI.drop {most : Int} {rows : DR} {syn : Nat} {s : RL} {j : Nat} (h : TI most rows syn s j) (below : Int) : TI most (dropR below rows) (dropR below rows).length s (j + 1) := by
  have hl : (dropR below rows).length ≤ rows.length := List.length_filter_le _ _
  have h5 := h.len
  exact ⟨h.rok.filter _, fun r hr => h.files r (List.mem_filter.1 hr).1, Nat.le_refl _, h.seg0, by have := h.seg; omega, by omega, by have := h.next; omega, by have := h.ssyn; omega, h.hm, h.range⟩
theorem segOf_le {rows : DR} {g : Int} (h0 : 0 ≤ g) (h : ∀ r ∈ rows, r.1 ≤ g) : segOf rows ≤ g + 1 := by
  cases hn : (filesOf rows).length with
  | zero => rw [segOf_nil hn]; omega
  | succ n =>
    obtain ⟨f, h1, h2, h3⟩ := segOf_cons hn.symm
    obtain ⟨r, hr, rfl⟩ := List.mem_map.1 (mem_filesOf.1 h3)
    have := h r hr
    omega
theorem segOf_files {rows : DR} (hok : RowsOk rows) : ∀ r ∈ rows, r.1 ≤ segOf rows := by
  intro r hr
  have hf : r.1 ∈ filesOf rows := mem_filesOf.2 (List.mem_map.2 ⟨r, hr, rfl⟩)
  obtain ⟨i, hi, he⟩ := List.getElem_of_mem hf
  obtain ⟨n, hn⟩ : ∃ n, n + 1 = (filesOf rows).length := ⟨(filesOf rows).length - 1, by omega⟩
  obtain ⟨f, h1, h2, h3⟩ := segOf_cons hn
  have hnl : n < (filesOf rows).length := by omega
  rw [List.getElem?_eq_getElem hnl] at h1
  have h1 := Option.some.inj h1
  rw [h2, ← he, ← h1]
  rcases Nat.lt_or_ge i n with h | h
  · have := List.pairwise_iff_getElem.1 (filesOf_rising rows) i n hi hnl h
    omega
  · have : i = n := by omega
    subst this
    omega
theorem TI.crash {most : Int} {rows : DR} {syn : Nat} {s : RL} {j : Nat} (h : TI most rows syn s j) (hj : j ≤ 1000) (keep : Int) :
    TI most (crashR rows syn keep) (crashR rows syn keep).length ⟨most, segOf (crashR rows syn keep), (allM (crashR rows syn keep)).length, (allM (crashR rows syn keep)).length⟩ (j + 1) ∧ openE most (crashR rows syn keep) = 0 := by
  have hl := crashR_le rows syn keep
  have h5 := h.len
  have h2 := h.seg
  have hok : RowsOk (crashR rows syn keep) := h.rok.take _
  have hs := segOf_le (rows := crashR rows syn keep) h.seg0 fun r hr => h.files r (List.mem_of_mem_take hr)
  have ha := allM_len hok
  have hr := segOf_in hok
  refine ⟨⟨hok, segOf_files hok, Nat.le_refl _, hr.1, by dsimp only; omega, by omega, by dsimp only; omega, by dsimp only; omega, rfl, h.range⟩, ?_⟩
  have h6 := h.range
  unfold openE
  rw [if_neg (by omega), if_neg (by omega)]
end Go.Nm
namespace Go.Proofs.Ytomdcdfcdeaabaa
open Go Go.Nm Go.Proofs
section
variable {F L : List Assn} {H : Heap} {K : Value → Heap → Prop} {rb db pb sb : Nat} {rows : DR} {syn : Nat} {s : RL} {most : Int} {j : Nat}

theorem Great36_spec {a : Option Addr} {c : Nat} {calls : List RD} (hr : rdS H a (flat encD calls)) (hl : calls.length ≤ maxLen) : CallQ Try.prog 36 #[.slice a calls.length c] H (.bool (!decide (calls.length ≤ 40 ∧ ∀ x ∈ calls, x.bs.length ≤ 200))) := by
  unfold CallQ
  unfold maxLen at hl
  refine Great_36.call ?_
  unfold Great_36.code
  refine ⟨fun hc => ?_, fun hc => ?_⟩
  · have : ¬ (calls.length ≤ 40 ∧ ∀ x ∈ calls, x.bs.length ≤ 200) := fun h => by have := of_decide_eq_true hc; omega
    rw [decide_eq_false this]
    exact ⟨rfl, rfl⟩
  have h60 : calls.length ≤ 40 := by have := of_decide_eq_false hc; omega
  refine ⟨fun i H' => H' = H ∧ ∃ k : Nat, i = k ∧ k ≤ calls.length ∧ ∀ x ∈ calls.take k, x.bs.length ≤ 200, fun i _ => calls.length - i.toNat, ⟨rfl, 0, rfl, Nat.zero_le _, by simp⟩, ?_⟩
  rintro i H' ⟨rfl, k, rfl, hk, hall⟩
  unfold Great_36.l1
  refine ⟨fun hc2 => ?_, fun hc2 => ?_⟩
  · have hlt : k < calls.length := by have := of_decide_eq_true hc2; omega
    refine ⟨⟨by omega, by omega⟩, _, _, hr.some encD_len (by omega) hlt, _, _, _, hr.el encD_len hlt 3 rfl, fun hc3 => ?_, fun hc3 => ?_⟩
    · have : ¬ (calls.length ≤ 40 ∧ ∀ x ∈ calls, x.bs.length ≤ 200) := fun h => by
        have h1 := h.2 _ (List.getElem_mem hlt)
        have := of_decide_eq_true hc3; omega
      rw [decide_eq_false this]
      exact ⟨rfl, rfl⟩
    · rw [w64 (x := (k : Int) + 1) (by omega) (by omega)]
      refine ⟨⟨rfl, k + 1, rfl, hlt, fun x hx => ?_⟩, by simp only [Int.toNat_natCast]; omega⟩
      rw [List.take_succ_eq_append_getElem hlt] at hx
      rcases List.mem_append.1 hx with hx | hx
      · exact hall x hx
      · rw [List.mem_singleton] at hx; subst hx
        have := of_decide_eq_false hc3; omega
  · obtain rfl : k = calls.length := by have := of_decide_eq_false hc2; omega
    rw [List.take_length] at hall
    rw [decide_eq_true (show calls.length ≤ 40 ∧ ∀ x ∈ calls, x.bs.length ≤ 200 from ⟨h60, hall⟩)]
    exact ⟨rfl, rfl⟩

/-- Two halves of own bytes, as parts. -/
theorem halves {oa : Option Addr} {oc q : Nat} {bs : List Int} (hq : q ≤ bs.length) : [Value.slice (slB oa 0 oc 1) q oc, .slice (slB oa q oc 1) (bs.length - q) (oc - q)] = [(⟨slB oa 0 oc 1, oc, bs.take q⟩ : Fy), ⟨slB oa q oc 1, oc - q, bs.drop q⟩].map encY := by
  show _ = [Value.slice (slB oa 0 oc 1) (bs.take q).length oc, .slice (slB oa q oc 1) (bs.drop q).length (oc - q)]
  rw [List.length_take, List.length_drop, Nat.min_eq_left hq]

theorem told_spec {x : RD} (ti : TI most rows syn s j) (hj : j ≤ 900) (hx : x.bs.length ≤ 200) (hxb : isBytes x.bs) (hn : wf64 x.n) (hl : ∀ H', SatL H' F → rdS H' x.a (x.bs.map U8))
    (h : SatL H (reelA rb db s :: diskX db rows syn :: rreelA sb pb s :: refX pb rows syn :: F))
    (k : ∀ rb' sb' rows' syn' s' H', TI most rows' syn' s' (j + 1) → SatL H' (reelA rb' db s' :: diskX db rows' syn' :: rreelA sb' pb s' :: refX pb rows' syn' :: F) →
      K (.tuple #[.pointer (some ⟨rb', 0, none⟩), .pointer (some ⟨sb', 0, none⟩), .bool true]) H') :
    CallF Try.prog 39 #[.pointer (some ⟨db, 0, none⟩), .pointer (some ⟨pb, 0, none⟩), .pointer (some ⟨rb, 0, none⟩), .pointer (some ⟨sb, 0, none⟩), .int .i64 most, .agg #[.int .i64 x.what, .int .i64 x.kind, .int .i64 x.n, .slice x.a x.bs.length x.c]] H K := by
  refine told.call ?_
  unfold told.code
  have hok := ti.ok (by omega)
  have hlen := ti.len
  have hseg := ti.seg
  have hseg0 := ti.seg0
  refine h.al fun b _ h => ⟨_, h.rd 0 rfl _, fun hc => ?_, fun n0 => ?_⟩
  · refine ⟨_, _, _, h.rd 0 rfl _, by decide, _, _, _, h.rd 0 rfl _, ?_⟩
    refine CopyBytes_own h (fun H h => hl H h.tl.tl.tl.tl.tl) (by omega) fun oa oc H2 h => ⟨_, _, _, rfl, _, h.rd 1 rfl _, ?_⟩
    rw [tdiv2, w64 (x := ((x.bs.length / 2 : Nat) : Int)) (by omega) (by omega)]
    have hnc := h.sl_nc 0 rfl
    have hh : x.bs.length / 2 ≤ x.bs.length := Nat.div_le_self _ _
    refine ⟨⟨by omega, by omega, by omega⟩, ⟨by omega, by omega, by omega⟩, ?_⟩
    rw [Int.toNat_natCast]
    generalize x.bs.length / 2 = q at *
    have hA := slA_is h
    refine h.al fun b1 H3 h => ⟨h.rd 2 rfl _, ?_⟩
    have eparts := halves (oa := oa) (oc := oc) hh
    have efl : [(⟨slB oa 0 oc 1, oc, x.bs.take q⟩ : Fy), ⟨slB oa q oc 1, oc - q, x.bs.drop q⟩].flatMap Fy.bs = x.bs := by
      simp only [List.flatMap_cons, List.flatMap_nil, List.append_nil, List.take_append_drop]
    refine AppendR_spec (F := cellsA b1 [Value.slice (slB oa 0 oc 1) q oc, .slice (slB oa q oc 1) (x.bs.length - q) (oc - q)] 32 :: slA 5 1 oa x.bs.length oc (x.bs.map U8) :: cellsA b (encD x) 74 :: rreelA sb pb s :: refX pb rows syn :: F) (c := 2)
      (parts := [(⟨slB oa 0 oc 1, oc, x.bs.take q⟩ : Fy), ⟨slB oa q oc 1, oc - q, x.bs.drop q⟩]) hok (by omega) (h.ordt [3, 4, 0, 1, 2, 5, 6] 7 (by decide) (by decide)) (fun H h => ?_) (fun H h p hp => ?_) (by rw [efl]; exact hxb) (Nat.le_of_ble_eq_true rfl) (by rw [efl]; omega) fun H4 h => ⟨_, _, rfl, _, h.rd 4 rfl _, _, _, _, h.rd 4 rfl _, ?_⟩
    · rw [← eparts]; exact h.ce_rd 0 rfl
    · have hr := h.sl_rd 1 rfl
      simp only [List.mem_cons, List.not_mem_nil, or_false] at hp
      rcases hp with rfl | rfl
      · have := (rdS.subB (k := 0) hr (by simpa using hnc)).take q
        rw [List.drop_zero, ← List.map_take] at this
        exact this
      · have := rdS.subB (k := q) hr (by simpa using hnc)
        rw [← List.map_drop] at this
        exact this
    · rw [efl] at h ⊢
      refine RAppendR_spec (F := reelA rb db (appS rows s ⟨x.kind, x.bs⟩) :: diskX db (appRows rows s ⟨x.kind, x.bs⟩) syn :: F) hok (by omega) (h.ordt [5, 6, 0, 1] 7 (by decide) (by decide)) (fun H h => hl H h.tl.tl) hxb (by omega) fun H5 h => ⟨_, _, rfl, ?_⟩
      rw [decide_eq_true rfl, decide_eq_true rfl]
      exact k _ _ _ _ _ _ (ti.append (by omega) hxb hx) (h.ordt [2, 3, 0, 1] 4 (by decide) (by decide))
  intro Jn hJ
  have fin : ∀ rows' syn' s' H', TI most rows' syn' s' (j + 1) → SatL H' (reelA rb db s' :: diskX db rows' syn' :: rreelA sb pb s' :: refX pb rows' syn' :: F) → Jn H' := by
    intro rows' syn' s' H' ti' h'
    refine hJ _ ?_
    unfold told.r1
    exact k _ _ _ _ _ _ ti' h'
  refine ⟨fun hc => ?_, fun n1 => ⟨fun hc => ?_, fun n2 => ⟨fun hc => ?_, fun n3 => ⟨fun hc => ?_, fun n4 => ?_⟩⟩⟩⟩
  · refine RSyncR_spec (F := rreelA sb pb s :: refX pb rows syn :: F) (h.ordt [1, 2, 3, 4] 5 (by decide) (by decide)) fun H1 h => ⟨rfl, ?_⟩
    refine RSync_spec (F := reelA rb db { s with syn := s.next } :: diskX db rows rows.length :: rreelA sb pb s :: F) (h.ordt [3, 0, 1, 2] 4 (by decide) (by decide)) fun H2 h => ⟨rfl, _, h.rd 3 rfl _, ?_⟩
    refine h.st 3 rfl rfl fun H3 h => fin _ _ _ _ ti.sync ?_
    exact h.ordt [1, 2, 3, 0] 4 (by decide) (by decide)
  · refine Turn_spec (F := diskX db rows syn :: rreelA sb pb s :: refX pb rows syn :: F) ⟨hseg0, by omega⟩ (h.ordt [1, 2, 3, 4] 5 (by decide) (by decide)) (fun hf => absurd hf (by omega)) fun _ H1 h => ⟨_, _, rfl, _, h.rd 2 rfl _, ?_⟩
    rw [w64 (x := s.seg + 1) (by omega) (by omega)]
    refine h.st 2 rfl rfl fun H2 h => ⟨fun _ => trivial, _, fun _ => h.rd 2 rfl _, ?_⟩
    rw [decide_eq_true rfl, decide_eq_true rfl]
    exact k _ _ _ _ _ _ ti.turn h
  · refine ⟨_, h.rd 0 rfl _, _, h.rd 0 rfl _, ?_⟩
    refine DropR_spec (F := cellsA b (encD x) 74 :: rreelA sb pb s :: refX pb rows syn :: F) (by omega) ti.syn (h.ordt [1, 2, 0, 3, 4] 5 (by decide) (by decide)) (fun hp H1 h => ⟨_, rfl, h.rd 2 rfl _, ?_⟩) fun hp H1 h => ⟨_, rfl, h.rd 2 rfl _, ?_⟩
    · refine RDropR_spec (F := reelA rb db s :: diskX db rows syn :: F) (by omega) ti.syn (h.ordt [3, 4, 0, 1] 5 (by decide) (by decide)) (fun _ H2 h => ⟨_, rfl, ?_⟩) fun hf => absurd hp hf
      rw [decide_eq_true rfl]
      exact k _ _ _ _ _ _ ti.mono (h.ordt [2, 3, 0, 1] 4 (by decide) (by decide))
    · refine RDropR_spec (F := reelA rb db s :: diskX db (dropR x.n rows) (dropR x.n rows).length :: F) (by omega) ti.syn (h.ordt [3, 4, 0, 1] 5 (by decide) (by decide)) (fun hf => absurd hf hp) fun _ H2 h => ⟨_, rfl, ?_⟩
      rw [decide_eq_true rfl]
      exact k _ _ _ _ _ _ (ti.drop x.n) (h.ordt [2, 3, 0, 1] 4 (by decide) (by decide))
  · obtain ⟨ti', hop⟩ := ti.crash (by omega) x.n
    refine ⟨_, h.rd 0 rfl _, ?_⟩
    refine Crash_spec (F := cellsA b (encD x) 74 :: refX pb rows syn :: F) hn (by omega) (h.ordt [2, 0, 4] 5 (by decide) (by decide)) fun H1 h => ⟨rfl, _, h.rd 1 rfl _, ?_⟩
    refine RCrash_spec (F := diskX db (crashR rows syn x.n) (crashR rows syn x.n).length :: F) hn (by omega) ti.syn (h.ordt [2, 0] 3 (by decide) (by decide)) fun H2 h => ⟨rfl, ?_⟩
    have hcl := crashR_le rows syn x.n
    refine Open_spec (F := refX pb (crashR rows syn x.n) (crashR rows syn x.n).length :: F) ti'.rok (by omega) (h.ordt [1, 0] 2 (by decide) (by decide)) (fun _ rs a1 c1 rb' H3 hrs h => ⟨_, _, _, _, _, rfl, ?_⟩) fun hf => absurd hop hf
    refine ROpen_spec (F := reelA rb' db (opS most (crashR rows syn x.n)) :: slA 52 2 a1 rs.length c1 (flat encR rs) :: rowsR rs :: diskX db (crashR rows syn x.n) (crashR rows syn x.n).length :: F) ti'.rok (by omega) (h.ordt [4, 0, 1, 2, 3] 5 (by decide) (by decide)) (fun _ qs a2 c2 sb' H4 hqs h => ⟨_, _, _, _, _, rfl, fun Jn1 hJ1 => ⟨fun _ => ?_, fun hf => absurd (by simp) hf⟩⟩) fun hf => absurd hop hf
    have hal := allM_len ti'.rok
    have hrl : rs.length ≤ 1099511627776 := by rw [← List.length_map (f := Ry.rc), hrs]; omega
    refine of_spec h (fun H h => h.sl_rd 5 rfl) hrl fun a3 c3 H5 h => ⟨_, _, _, rfl, ?_⟩
    have hbl : ∀ r ∈ rs, r.y.bs.length ≤ 1099511627776 := fun r hr => by
      have hm : r.rc ∈ allM (crashR rows syn x.n) := by rw [← hrs]; exact List.mem_map.2 ⟨r, hr, rfl⟩
      obtain ⟨f, hf, hm⟩ := List.mem_flatMap.1 hm
      have := ((scanM_ok (Nat.le_refl _) (ti'.rok.bytes f)).1 _ hm).len
      unfold Ry.rc at this
      dsimp only at this
      omega
    have q := Same_spec (c := c3) (d := c2) (h.sl_rd 0 rfl) (h.sl_rd 2 rfl) (rowsR_rd (h.ordt [7] 9 (by decide) (by decide))) (rowsR_rd (h.ordt [3] 9 (by decide) (by decide))) hrl hbl
    rw [decide_eq_true (by rw [hrs, hqs])] at q
    refine ⟨_, q, hJ1 _ _ _ _ ?_⟩
    unfold told.r2
    exact k _ _ _ _ _ _ ti' (h.ordt [5, 8, 1, 4] 9 (by decide) (by decide))
  · exact fin _ _ _ _ ti.mono h.tl
end
end Go.Proofs.Ytomdcdfcdeaabaa
namespace Go.Proofs.Ytomdcdfcdeaabaa
open Go Go.Nm Go.Proofs
def RCallOk (H0 : Heap) (x : RD) : Prop := rdS H0 x.a (x.bs.map U8) ∧ wf64 x.n ∧ isBytes x.bs
theorem reads_rcalls {H : Type} {enc : TypeId × Value → H} {W : World} {cs : List Value} (h : Reads enc Try.prog W 63 cs) :
    ∃ a c calls, cs = [.slice a (List.length calls) c] ∧ calls.length ≤ maxLen ∧ rdS W.heap a (flat encD calls) ∧ ∀ x ∈ calls, RCallOk W.heap x := by
  refine reads_rows (sz := 4) Try.underlying63 (by kernel_rfl) (by decide) h (fun vs hv hl => ?_) encD_len
  obtain ⟨_, hf⟩ := reads_struct Try.underlying74 hv
  have c3 : Try.prog.cellsOf 3 = 1 := by kernel_rfl
  have c32 : Try.prog.cellsOf 32 = 1 := by kernel_rfl
  simp only [List.mem_cons, List.not_mem_nil, or_false, forall_eq_or_imp, forall_eq, c3, c32] at hf
  obtain ⟨f1, f2, f3, f4⟩ := hf
  match vs, hl with
  | [x, y, z, u], _ =>
    simp only [List.drop_zero, List.take_succ_cons, List.take_zero, List.drop_succ_cons] at f1 f2 f3 f4
    obtain ⟨n1, e1, _, _⟩ := reads_int Try.underlying3 f1
    obtain ⟨n2, e2, _, _⟩ := reads_int Try.underlying3 f2
    obtain ⟨n3, e3, l3, u3⟩ := reads_int Try.underlying3 f3
    obtain ⟨a, c, bs, e4, _, hr, hb⟩ := reads_bytesC f4
    simp only [List.cons.injEq, and_true] at e1 e2 e3 e4
    subst e1; subst e2; subst e3; subst e4
    exact ⟨⟨n1, n2, n3, a, c, bs⟩, rfl, hr, ⟨l3, u3⟩, hb⟩
def DCallOk (H0 : Heap) (x : CD) : Prop := rdS H0 x.a (x.bs.map U8) ∧ wf64 x.keep ∧ isBytes x.bs
theorem reads_dcalls {H : Type} {enc : TypeId × Value → H} {W : World} {cs : List Value} (h : Reads enc Try.prog W 22 cs) :
    ∃ a c calls, cs = [.slice a (List.length calls) c] ∧ calls.length ≤ maxLen ∧ rdS W.heap a (flat encC calls) ∧ ∀ x ∈ calls, DCallOk W.heap x := by
  refine reads_rows (sz := 4) Try.underlying22 (by kernel_rfl) (by decide) h (fun vs hv hl => ?_) encC_len
  obtain ⟨_, hf⟩ := reads_struct Try.underlying34 hv
  have c3 : Try.prog.cellsOf 3 = 1 := by kernel_rfl
  have c32 : Try.prog.cellsOf 32 = 1 := by kernel_rfl
  simp only [List.mem_cons, List.not_mem_nil, or_false, forall_eq_or_imp, forall_eq, c3, c32] at hf
  obtain ⟨f1, f2, f3, f4⟩ := hf
  match vs, hl with
  | [x, y, z, u], _ =>
    simp only [List.drop_zero, List.take_succ_cons, List.take_zero, List.drop_succ_cons] at f1 f2 f3 f4
    obtain ⟨n1, e1, _, _⟩ := reads_int Try.underlying3 f1
    obtain ⟨n2, e2, _, _⟩ := reads_int Try.underlying3 f2
    obtain ⟨n3, e3, l3, u3⟩ := reads_int Try.underlying3 f3
    obtain ⟨a, c, bs, e4, _, hr, hb⟩ := reads_bytesC f4
    simp only [List.cons.injEq, and_true] at e1 e2 e3 e4
    subst e1; subst e2; subst e3; subst e4
    exact ⟨⟨n1, n2, n3, a, c, bs⟩, rfl, hr, ⟨l3, u3⟩, hb⟩
theorem great36_no {calls : List RD} (h : (!decide (calls.length ≤ 40 ∧ ∀ x ∈ calls, x.bs.length ≤ 200)) = false) : calls.length ≤ 40 ∧ ∀ x ∈ calls, x.bs.length ≤ 200 := by simpa using h
theorem ti0 {most : Int} (h : openE most [] = 0) : TI most [] 0 (opS most []) 0 := by
  obtain ⟨_, h2, h3⟩ := ex_all
  have hr : 64 ≤ most ∧ most ≤ 1048576 := by
    unfold openE at h
    split at h
    · cases h
    · omega
  unfold opS
  rw [h2, h3]
  exact ⟨fun r hr => (by cases hr), fun r hr => (by cases hr), Nat.le_refl _, Int.le_refl _, Int.le_refl _, Nat.le_refl _, Nat.le_refl _, Nat.le_refl _, rfl, hr⟩
section
variable {H0 : Heap} {ca : Option Addr} {cc : Nat} {most : Int}

theorem ReelCalls_true {calls : List RD} (hlen0 : calls.length ≤ maxLen) (hc : rdS H0 ca (flat encD calls)) (hq : ∀ x ∈ calls, RCallOk H0 x) :
    CallF Try.prog 8 #[.int .i64 most, .slice ca calls.length cc] H0 fun v H' => v = .bool true ∧ Grow H0 H' := by
  refine ReelCalls.call ?_
  unfold ReelCalls.code
  refine alive28_spec (sat0 H0) fun H1 h => ⟨_, rfl, (fun hf => by cases hf), fun _ => ?_⟩
  refine ⟨_, Great36_spec (h.old_rd 0 rfl hc) hlen0, fun _ => ⟨rfl, h.old_grow 0 rfl⟩, fun hg => ?_⟩
  obtain ⟨hlen, hbig⟩ := great36_no hg
  have ok0 : RowsOk ([] : DR) := fun r hr => by cases hr
  refine New_spec h fun db H2 h => ⟨_, rfl, h.al fun pb _ h => ⟨(fun hf => by cases hf), fun _ => ?_⟩⟩
  have h := (refX_shut (rows := []) (syn := 0) ((h.sl_nil 105 2).ordt [1, 0, 2] 3 (by decide) (by decide))).ordt [1, 0] 2 (by decide) (by decide)
  refine Open_spec ok0 (Nat.zero_le _) h (fun he rs a1 c1 rb H3 hrs h => ⟨_, _, _, _, _, rfl, ?_⟩) fun he H3 h => ⟨_, _, _, _, _, rfl, ?_⟩
  · have hrs : rs = [] := by
      rw [ex_all.2.1] at hrs
      simpa using hrs
    subst hrs
    refine ROpen_spec (F := reelA rb db (opS most []) :: diskX db [] 0 :: [old H0]) ok0 (Nat.zero_le _) (h.ordt [4, 0, 3] 5 (by decide) (by decide)) (fun _ qs a2 c2 sb H4 hqs h => ⟨_, _, _, _, _, rfl, (fun hf => by simp at hf), fun _ => ⟨(fun hf => by cases hf), fun _ => ?_⟩⟩) fun hf => absurd he hf
    refine ⟨fun r7 s7 i H' => ∃ (rb sb : Nat) (rows : DR) (syn : Nat) (s : RL) (j : Nat), r7 = some ⟨rb, 0, none⟩ ∧ s7 = some ⟨sb, 0, none⟩ ∧ i = j ∧ j ≤ calls.length ∧ TI most rows syn s j ∧
      SatL H' (reelA rb db s :: diskX db rows syn :: rreelA sb pb s :: refX pb rows syn :: [old H0]), fun _ _ i _ => calls.length - i.toNat,
      ⟨rb, sb, [], 0, _, 0, rfl, rfl, rfl, Nat.zero_le _, ti0 he, h.ordt [4, 5, 0, 3] 6 (by decide) (by decide)⟩, ?_⟩
    rintro r7 s7 i H5 ⟨rb, sb, rows, syn, s, j, rfl, rfl, rfl, hj, ti, h⟩
    unfold ReelCalls.l2
    refine ⟨fun hx => ?_, fun _ => ⟨rfl, h.old_grow 4 rfl⟩⟩
    have hlt : j < calls.length := by simpa using hx
    have hr := h.old_rd 4 rfl hc
    have hm := List.getElem_mem hlt
    have hxo := hq _ hm
    have hxb := hbig _ hm
    refine ⟨⟨by omega, by omega⟩, _, _, hr.some encD_len (by omega) hlt, _, _, _, _, _, _, hr.els encD_len hlt, ?_⟩
    generalize calls[j] = x at *
    refine told_spec ti (by omega) hxb hxo.2.2 hxo.2.1 (fun H' h' => h'.old_rd 0 rfl hxo.1) h fun rb' sb' rows' syn' s' H6 ti' h => ⟨_, _, _, rfl, fun Jn hJ => ⟨fun _ => ?_, fun hf => absurd rfl hf⟩⟩
    have hlen' := ti'.len
    refine Agree_spec (s := (rows', syn')) (F := reelA rb' db s' :: rreelA sb' pb s' :: [old H0]) (by dsimp only; omega) ti'.syn (h.ordt [1, 3, 0, 2] 4 (by decide) (by decide)) fun H7 h => ⟨_, rfl, ?_⟩
    have h2 : SatL H7 (reelA rb' db s' :: diskX db rows' syn' :: rreelA sb' pb s' :: refX pb rows' syn' :: [old H0]) := h.ordt [2, 0, 3, 1] 4 (by decide) (by decide)
    refine ⟨_, fun _ => Next_spec h2, fun _ => trivial, _, fun _ => h2.rd 2 rfl _, _, fun _ => Synced_spec h2, fun _ => trivial, _, fun _ => h2.rd 2 rfl _, _, fun _ => Segment_spec h2, fun _ => trivial, _, fun _ => h2.rd 2 rfl _, hJ _ _ ?_⟩
    unfold ReelCalls.r1
    refine ⟨fun hf => by simp at hf, fun _ => ?_⟩
    rw [w64 (x := (j : Int) + 1) (by omega) (by omega)]
    exact ⟨⟨_, _, _, _, _, j + 1, rfl, rfl, rfl, hlt, ti', h2⟩, by simp only [Int.toNat_natCast]; omega⟩
  · refine ROpen_spec (F := diskX db [] 0 :: [old H0]) ok0 (Nat.zero_le _) (h.ordt [1, 0] 2 (by decide) (by decide)) (fun hf => absurd hf he) fun _ H4 h => ⟨_, _, _, _, _, rfl, (fun hf => by simp at hf), fun _ => ⟨fun _ => ⟨rfl, h.old_grow 2 rfl⟩, (fun hf => by cases hf)⟩⟩

theorem doD_ok {s : DR × Nat} {x : CD} (h : RowsOk s.1) (hx : isBytes x.bs) : RowsOk (doD s x).1 := by
  unfold doD
  split
  · split
    · exact h
    · exact h.app (by omega) hx
  · split
    · exact h
    · split
      · split
        · exact h
        · split
          · exact h
          · exact h.filter _
      · split
        · exact h.take _
        · exact h

theorem ReelOpens_true {files : List CD} (hlen0 : files.length ≤ maxLen) (hc : rdS H0 ca (flat encC files)) (hq : ∀ x ∈ files, DCallOk H0 x) :
    CallF Try.prog 9 #[.slice ca files.length cc, .int .i64 most] H0 fun v H' => v = .bool true ∧ Grow H0 H' := by
  refine ReelOpens.call ?_
  unfold ReelOpens.code
  refine alive28_spec (sat0 H0) fun H1 h => ⟨_, rfl, (fun hf => by cases hf), fun _ => ?_⟩
  refine ⟨_, Great_spec (h.old_rd 0 rfl hc) hlen0, fun _ => ⟨rfl, h.old_grow 0 rfl⟩, fun hg => ?_⟩
  obtain ⟨hlen, hbig⟩ := great_no hg
  refine New_spec h fun db H2 h => ⟨_, rfl, h.al fun rb _ h => ⟨(fun hf => by cases hf), fun _ => ?_⟩⟩
  have h := (refX_shut (rows := []) (syn := 0) ((h.sl_nil 105 2).ordt [1, 0, 2] 3 (by decide) (by decide))).ordt [1, 0] 2 (by decide) (by decide)
  refine ⟨fun i H' => ∃ (k : Nat) (s : DR × Nat), i = k ∧ k ≤ files.length ∧ s.2 ≤ s.1.length ∧ s.1.length ≤ 200 * k ∧ RowsOk s.1 ∧ SatL H' [diskX db s.1 s.2, refX rb s.1 s.2, old H0], fun i _ => files.length - i.toNat,
    ⟨0, ([], 0), rfl, Nat.zero_le _, Nat.le_refl _, Nat.le_refl _, fun r hr => (by cases hr), h⟩, ?_⟩
  rintro i H4 ⟨k, s, rfl, hk, hs, hsl, ok, h⟩
  unfold ReelOpens.l2
  refine ⟨fun hc1 => ?_, fun hc1 => ?_⟩
  · have hlt : k < files.length := by have := of_decide_eq_true hc1; omega
    have hr := h.old_rd 2 rfl hc
    have hx := hq _ (List.getElem_mem hlt)
    have hxb := hbig _ (List.getElem_mem hlt)
    refine ⟨⟨by omega, by omega⟩, _, _, hr.some encC_len (by omega) hlt, _, _, _, _, _, _, hr.els encC_len hlt, ?_⟩
    generalize files[k] = x at *
    refine Do_spec (s2 := s) (F := [old H0]) hx.2.1 (by omega) (by omega) (by omega) hs (fun H' h' => h'.old_rd 0 rfl hx.1) h fun r H5 hr h => ⟨_, rfl, ?_⟩
    rw [hr rfl]
    have hl2 := doD_len s x
    refine ⟨(fun hf => by cases hf), fun _ => ?_⟩
    rw [w64 (x := (k : Int) + 1) (by omega) (by omega)]
    exact ⟨⟨k + 1, _, rfl, hlt, doD_syn hs x, by omega, doD_ok ok hx.2.2, h⟩, by simp only [Int.toNat_natCast]; omega⟩
  · refine Open_spec ok (by omega) h (fun he rs a1 c1 qb H5 hrs h => ⟨_, _, _, _, _, rfl, ?_⟩) fun he H5 h => ⟨_, _, _, _, _, rfl, ?_⟩
    · refine ROpen_spec (F := reelA qb db (opS most s.1) :: slA 52 2 a1 rs.length c1 (flat encR rs) :: rowsR rs :: diskX db s.1 s.2 :: [old H0]) ok (by omega) (h.ordt [4, 0, 1, 2, 3] 5 (by decide) (by decide)) (fun _ qs a2 c2 sb H6 hqs h => ⟨_, _, _, _, _, rfl, fun Jn hJ => ⟨fun _ => ?_, fun hf => absurd (by simp) hf⟩⟩) fun hf => absurd he hf
      have hal := allM_len ok
      have hrl : rs.length ≤ 1099511627776 := by rw [← List.length_map (f := Ry.rc), hrs]; omega
      refine of_spec h (fun H h => h.sl_rd 5 rfl) hrl fun a3 c3 H7 h => ⟨_, _, _, rfl, ?_⟩
      have hbl : ∀ r ∈ rs, r.y.bs.length ≤ 1099511627776 := fun r hr => by
        have hm : r.rc ∈ allM s.1 := by rw [← hrs]; exact List.mem_map.2 ⟨r, hr, rfl⟩
        obtain ⟨f, hf, hm⟩ := List.mem_flatMap.1 hm
        have := ((scanM_ok (Nat.le_refl _) (ok.bytes f)).1 _ hm).len
        unfold Ry.rc at this
        dsimp only at this
        omega
      have q := Same_spec (c := c3) (d := c2) (h.sl_rd 0 rfl) (h.sl_rd 2 rfl) (rowsR_rd (h.ordt [7] 9 (by decide) (by decide))) (rowsR_rd (h.ordt [3] 9 (by decide) (by decide))) hrl hbl
      rw [decide_eq_true (by rw [hrs, hqs])] at q
      refine ⟨_, q, hJ _ _ ?_⟩
      unfold ReelOpens.r1
      have h5 : SatL H7 (reelA qb db (opS most s.1) :: rreelA sb rb (opS most s.1) :: old H0 :: []) := h.ordt [5, 1, 9] 10 (by decide) (by decide)
      refine ⟨fun hf => by simp at hf, fun _ => ⟨_, fun _ => Segment_spec h5, fun _ => trivial, _, fun _ => h5.rd 1 rfl _, _, fun _ => Next_spec h5, fun _ => trivial, _, fun _ => h5.rd 1 rfl _, _, fun _ => Synced_spec h5, fun _ => trivial, _, fun _ => h5.rd 1 rfl _, ?_, h5.old_grow 2 rfl⟩⟩
      simp
    · refine ROpen_spec (F := diskX db s.1 s.2 :: [old H0]) ok (by omega) (h.ordt [1, 0] 2 (by decide) (by decide)) (fun hf => absurd hf he) fun _ H6 h => ⟨_, _, _, _, _, rfl, fun Jn hJ => ⟨fun _ => ?_, fun hf => absurd (by simp) hf⟩⟩
      refine of_spec (rs := []) h (fun H h => rdS_nil _ _) (Nat.zero_le _) fun a3 c3 H7 h => ⟨_, _, _, rfl, ?_⟩
      have q := Same_spec (H := H7) (a := a3) (b := none) (c := c3) (d := 0) (rs := []) (qs := []) (rdS_nil _ _) (rdS_nil _ _) (fun r hr => by cases hr) (fun r hr => by cases hr) (Nat.zero_le _) (fun r hr => by cases hr)
      rw [decide_eq_true rfl] at q
      refine ⟨_, q, hJ _ _ ?_⟩
      unfold ReelOpens.r1
      refine ⟨fun hf => by simp at hf, fun _ => ⟨0, (fun hf => by cases hf), (fun hf => by cases hf), 0, (fun hf => by cases hf), 0, fun hf => (by cases hf.1), fun hf => (by cases hf.1), 0, fun hf => (by cases hf.1), 0, fun hf => (by cases hf.1), fun hf => (by cases hf.1), 0, fun hf => (by cases hf.1), rfl, h.old_grow 3 rfl⟩⟩
end
end Go.Proofs.Ytomdcdfcdeaabaa
