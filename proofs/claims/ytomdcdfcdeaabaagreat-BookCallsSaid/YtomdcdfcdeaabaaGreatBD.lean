/-
  BookCalls: both sides by one model.
-/
import Derived.Test.YtomdcdfcdeaabaaGreatBB
set_option linter.unusedVariables false
set_option linter.unusedSimpArgs false
namespace Go.Proofs.YtomdcdfcdeaabaaGreat
open Go Go.Nm Go.Proofs
def rbookA (b2 sb : Nat) (saved : Bool) (num seg : Int) : Assn := cellsA b2 [.pointer (some ⟨sb, 0, none⟩), .int .i64 (if saved then num else -1), .int .i64 seg] 56
def BCallOk (H0 : Heap) (x : RD) : Prop := rdS H0 x.a (x.bs.map U8) ∧ wf64 x.n ∧ isBytes x.bs ∧ x.bs.length ≤ x.c
theorem reads_bcalls {H : Type} {enc : TypeId × Value → H} {W : World} {cs : List Value} (h : Reads enc Tryz.prog W 22 cs) :
    ∃ a c calls, cs = [.slice a (List.length calls) c] ∧ calls.length ≤ maxLen ∧ rdS W.heap a (flat encD calls) ∧ ∀ x ∈ calls, BCallOk W.heap x := by
  refine reads_rows (sz := 4) Tryz.underlying22 (by kernel_rfl) (by decide) h (fun vs hv hl => ?_) encD_len
  obtain ⟨_, hf⟩ := reads_struct Tryz.underlying46 hv
  have c3 : Tryz.prog.cellsOf 3 = 1 := by kernel_rfl
  have c32 : Tryz.prog.cellsOf 32 = 1 := by kernel_rfl
  simp only [List.mem_cons, List.not_mem_nil, or_false, forall_eq_or_imp, forall_eq, c3, c32] at hf
  obtain ⟨f1, f2, f3, f4⟩ := hf
  match vs, hl with
  | [x, y, z, u], _ =>
    simp only [List.drop_zero, List.take_succ_cons, List.take_zero, List.drop_succ_cons] at f1 f2 f3 f4
    obtain ⟨n1, e1, _, _⟩ := reads_int Tryz.underlying3 f1
    obtain ⟨n2, e2, _, _⟩ := reads_int Tryz.underlying3 f2
    obtain ⟨n3, e3, l3, u3⟩ := reads_int Tryz.underlying3 f3
    obtain ⟨a, c, bs, e4, hbc, hr, hb⟩ := reads_bytesC f4
    simp only [List.cons.injEq, and_true] at e1 e2 e3 e4
    subst e1; subst e2; subst e3; subst e4
    exact ⟨⟨n1, n2, n3, a, c, bs⟩, rfl, hr, ⟨l3, u3⟩, hb, hbc⟩
section
variable {F L : List Assn} {H : Heap} {K : Value → Heap → Prop} {rb db pb sb bb b2 : Nat} {rows : DR} {syn : Nat} {s : RL} {most : Int} {j : Nat} {saved : Bool} {num seg : Int}

theorem Tell_spec (a : Option Addr) {c : Nat} {rs : List Ry} (hl : rs.length ≤ 1099511627776) (hc : rs.length ≤ c) :
    ∃ fy has qs la lc, Tells rs fy has qs ∧ ∀ H, rdS H a (flat encR rs) → CallQ Tryz.prog 49 #[.slice a rs.length c] H (.tuple #[encY fy, .bool has, .slice la (List.length qs) lc]) ∧ rdS H la (flat encR qs) := by
  have key : ∀ n, n ≤ rs.length → (∀ r ∈ rs.drop n, r.kind ≠ 0) → (∀ r ∈ rs, r.kind ≠ 0) ∨ ∃ i r, i < n ∧ rs[i]? = some r ∧ r.kind = 0 ∧ ∀ x ∈ rs.drop (i + 1), x.kind ≠ 0 := by
    intro n
    induction n with
    | zero => intro _ h; rw [List.drop_zero] at h; exact .inl h
    | succ n ih =>
      intro hn h
      have hlt : n < rs.length := by omega
      by_cases h0 : rs[n].kind = 0
      · exact .inr ⟨n, _, Nat.lt_succ_self _, List.getElem?_eq_getElem hlt, h0, h⟩
      · rcases ih (by omega) (fun r hr => by
          rw [List.drop_eq_getElem_cons hlt] at hr
          rcases List.mem_cons.1 hr with rfl | hr
          · exact h0
          · exact h r hr) with h1 | ⟨i, r, h1, h2⟩
        · exact .inl h1
        · exact .inr ⟨i, r, by omega, h2⟩
  have ew : IntKind.i64.wrap ((rs.length : Int) - 1) = (rs.length : Int) - 1 := w64 (by omega) (by omega)
  rcases key rs.length (Nat.le_refl _) (by rw [List.drop_length]; intro r hr; cases hr) with hn | ⟨i, r, hi, hri, hr0, hz⟩
  · refine ⟨Fy.z, false, rs, a, c, Tells.none hn, fun H hr => ⟨?_, hr⟩⟩
    unfold CallQ
    refine R12_Tell.call ?_
    unfold R12_Tell.code
    rw [ew]
    refine ⟨fun i H' => H' = H ∧ ∃ m : Nat, i = (m : Int) - 1 ∧ m ≤ rs.length, fun i _ => (i + 1).toNat, ⟨rfl, rs.length, rfl, Nat.le_refl _⟩, ?_⟩
    rintro i H' ⟨rfl, m, rfl, hm⟩
    unfold R12_Tell.l1
    refine ⟨fun hx => ?_, fun hx => ⟨rfl, rfl⟩⟩
    obtain ⟨q, rfl⟩ : ∃ q, m = q + 1 := ⟨m - 1, by have := of_decide_eq_true hx; omega⟩
    have eq : ((q + 1 : Nat) : Int) - 1 = (q : Int) := by omega
    rw [eq]
    have hlt : q < rs.length := by omega
    refine ⟨⟨by omega, by omega⟩, _, _, hr.some encR_len (by omega) hlt, _, hr.el0 encR_len hlt rfl, fun hf => absurd (of_decide_eq_true hf) (hn _ (List.getElem_mem hlt)), fun _ => ?_⟩
    rw [w64 (x := (q : Int) - 1) (by omega) (by omega)]
    exact ⟨⟨rfl, q, rfl, by omega⟩, by simp only; omega⟩
  · obtain ⟨hlt, he⟩ := List.getElem?_eq_some_iff.1 hri
    refine ⟨r.y, true, rs.drop (i + 1), slB a (i + 1) c 2, c - (i + 1), Tells.at hri hr0 hz, fun H hr => ⟨?_, ?_⟩⟩
    · unfold CallQ
      refine R12_Tell.call ?_
      unfold R12_Tell.code
      rw [ew]
      refine ⟨fun i' H' => H' = H ∧ ∃ m : Nat, i' = (m : Int) - 1 ∧ m ≤ rs.length ∧ i < m, fun i _ => (i + 1).toNat, ⟨rfl, rs.length, rfl, Nat.le_refl _, hi⟩, ?_⟩
      rintro i' H' ⟨rfl, m, rfl, hm, him⟩
      unfold R12_Tell.l1
      refine ⟨fun hx => ?_, fun hx => absurd (of_decide_eq_false hx) (by omega)⟩
      obtain ⟨q, rfl⟩ : ∃ q, m = q + 1 := ⟨m - 1, by omega⟩
      have eq : ((q + 1 : Nat) : Int) - 1 = (q : Int) := by omega
      rw [eq]
      have hltq : q < rs.length := by omega
      refine ⟨⟨by omega, by omega⟩, _, _, hr.some encR_len (by omega) hltq, _, hr.el0 encR_len hltq rfl, fun hk => ?_, fun hk => ?_⟩
      · have hk : rs[q].kind = 0 := of_decide_eq_true hk
        have hqi : q = i := by
          rcases Nat.lt_or_ge i q with h1 | h1
          · exfalso
            refine hz rs[q] ?_ hk
            have : (rs.drop (i + 1))[q - (i + 1)]? = some rs[q] := by
              rw [List.getElem?_drop, show i + 1 + (q - (i + 1)) = q by omega, List.getElem?_eq_getElem hltq]
            exact List.mem_of_getElem? this
          · omega
        subst hqi
        rw [w64 (x := (q : Int) + 1) (by omega) (by omega), show ((q : Int) + 1).toNat = q + 1 by omega]
        refine ⟨⟨by omega, by omega⟩, _, _, hr.some encR_len (by omega) hltq, _, _, _, hr.el encR_len hltq 1 rfl, ⟨by omega, by omega, by omega⟩, ?_⟩
        rw [he, List.length_drop]
        exact ⟨rfl, rfl⟩
      · have hk : rs[q].kind ≠ 0 := of_decide_eq_false hk
        have hqi : i ≠ q := fun e => by subst e; rw [he] at hk; exact hk hr0
        rw [w64 (x := (q : Int) - 1) (by omega) (by omega)]
        exact ⟨⟨rfl, q, rfl, by omega, by omega⟩, by simp only; omega⟩
    · have := rdS.subS (k := i + 1) (c := c) (sz := 2) hr (by rw [flat_length encR_len]; exact Nat.mul_le_mul_right _ hc)
      rwa [Go.Nm.flat_drop encR_len] at this

theorem same_spec {fy : Fy} {has : Bool} {qs rs as' : List Ry} {qa aa : Option Addr} {qc ac : Nat} (h : SatL H F) (hq : ∀ H, SatL H F → rdS H qa (flat encR qs)) (ha : ∀ H, SatL H F → rdS H aa (flat encR as'))
    (hrs : ∀ H, SatL H F → ∀ r ∈ rs, rdS H r.y.a (r.y.bs.map U8)) (has' : ∀ H, SatL H F → ∀ r ∈ as', rdS H r.y.a (r.y.bs.map U8)) (ht : Tells rs fy has qs) (he : rs.map Ry.rc = as'.map Ry.rc)
    (hl : as'.length ≤ 1099511627776) (hrl : rs.length ≤ 1099511627776) (hc : as'.length ≤ ac) (hb : ∀ r ∈ rs, r.y.bs.length ≤ 1099511627776) (k : ∀ H', SatL H' F → K (.bool true) H') :
    CallF Tryz.prog 30 #[.agg #[encY fy, .bool has, .slice qa qs.length qc], .slice aa as'.length ac] H K := by
  refine same.call ?_
  unfold same.code
  refine h.al fun b H1 h => ?_
  obtain ⟨fy2, has2, qs2, la, lc, t3, tq⟩ := Tell_spec aa (c := ac) hl hc
  obtain ⟨e1, e2, e3⟩ := ht.same t3 (by rw [he])
  have hfy : rdS H1 fy.a (fy.bs.map U8) := by
    rcases ht.st with rfl | ⟨r, hr, rfl⟩
    · exact rdS_nil _ _
    · exact hrs _ h.tl r hr
  have hfy2 : rdS H1 fy2.a (fy2.bs.map U8) := by
    rcases t3.st with rfl | ⟨r, hr, rfl⟩
    · exact rdS_nil _ _
    · exact has' _ h.tl r hr
  have q := SameBytes_spec (c := fy.c) (d := fy2.c) hfy hfy2 (ht.short hb)
  rw [decide_eq_true e2] at q
  refine ⟨_, _, _, _, _, _, _, (tq _ (ha _ h.tl)).1, fun Jn hJ => ⟨_, h.rd 0 rfl _, _, _, _, fun _ => h.rd 0 rfl _, _, fun _ => q, _, _, _, fun _ => h.rd 0 rfl _, fun _ => ?_, fun hf => absurd (by rw [e1]; simp) hf⟩⟩
  have hql := ht.len
  refine of53_spec h (fun H h => hq H h.tl) (by omega) fun a5 c5 H2 h => ⟨_, _, _, rfl, ?_⟩
  have q2 := Same_spec (c := c5) (d := lc) (h.sl_rd 0 rfl) (tq _ (ha _ h.tl.tl)).2 (fun r hr => hrs _ h.tl.tl r (ht.sub r hr)) (fun r hr => has' _ h.tl.tl r (t3.sub r hr)) (by omega) fun r hr => hb r (ht.sub r hr)
  rw [decide_eq_true e3] at q2
  refine ⟨_, q2, hJ _ _ ?_⟩
  unfold same.r1
  exact k _ h.tl.tl

theorem R12Append_spec {a : Option Addr} {n c : Nat} {kind : Int} (h : SatL H (rbookA b2 sb saved num seg :: F))
    (k1 : kind ≤ 0 → K (.tuple #[.int .i64 (-1), .int .i64 11]) H)
    (k2 : ¬ kind ≤ 0 → CallF Tryz.prog 45 #[.pointer (some ⟨sb, 0, none⟩), .int .i64 kind, .slice a n c] H fun u H' => ∃ r r1 : Int, u = .tuple #[.int .i64 r, .int .i64 r1] ∧ K (.tuple #[.int .i64 r, .int .i64 r1]) H') :
    CallF Tryz.prog 24 #[.pointer (some ⟨b2, 0, none⟩), .int .i64 kind, .slice a n c] H K := by
  refine R12_Append.call ?_
  unfold R12_Append.code
  exact ⟨fun hc => k1 (by have := of_decide_eq_true hc; omega), fun hc => ⟨_, h.rd 0 rfl _, k2 (by have := of_decide_eq_false hc; omega)⟩⟩

theorem R12Save_spec {a : Option Addr} {c : Nat} {d : List Int} (hs : s.ok) (hseg : s.seg < 2147483647) (hf : ∀ r ∈ rows, r.1 ≤ s.seg) (hB : rows.length ≤ 549755813888)
    (h : SatL H (rbookA b2 sb saved num seg :: rreelA sb pb s :: refX pb rows syn :: F)) (ha : ∀ H, SatL H F → rdS H a (d.map U8)) (hb : isBytes d) (hl : d.length ≤ 262144)
    (k : ∀ H', SatL H' (rbookA b2 sb true s.next (s.seg + 1) :: rreelA sb pb { s with seg := s.seg + 1, next := s.next + 1 } :: refX pb (rows ++ (recB ⟨0, d⟩).map fun b => (s.seg + 1, b)) syn :: F) →
      K (.tuple #[.int .i64 s.next, .int .i64 0]) H') :
    CallF Tryz.prog 26 #[.pointer (some ⟨b2, 0, none⟩), .slice a d.length c] H K := by
  refine R12_Save.call ?_
  unfold R12_Save.code
  have hs1 := hs.seg
  have hs3 := hs.next
  refine ⟨fun hx => absurd (of_decide_eq_true hx) (by omega), fun _ => ⟨_, h.rd 0 rfl _, nn_some ⟨_, h.rd 1 rfl _, fun hx => absurd (of_decide_eq_true hx) (by omega), fun _ => ⟨_, h.rd 0 rfl _, nn_some ⟨_, h.rd 1 rfl _, nn_some ?_⟩⟩⟩⟩⟩
  rw [w64 (x := s.seg + 1) (by omega) (by omega)]
  refine h.st 1 rfl rfl fun H1 h => ⟨_, h.rd 0 rfl _, ?_⟩
  have hs' : ({ s with seg := s.seg + 1 } : RL).ok := ⟨by dsimp only; omega, hs.most, hs3, hs.syn⟩
  have hrok : (⟨0, d⟩ : Rc).ok := ⟨Int.le_refl 0, by show (0 : Int) ≤ 255; decide, hl, hb⟩
  have hap := app_fresh (rows := rows) (s := { s with seg := s.seg + 1 }) (fun x hx => by have := hf x hx; dsimp only; omega) hrok
  refine RAppendR_spec (F := rbookA b2 sb saved num seg :: F) (s := { s with seg := s.seg + 1 }) hs' hB (h.ordt [1, 2, 0] 3 (by decide) (by decide)) (fun H h => ha H h.tl) hb (by omega) fun H2 h => ?_
  rw [hap.1, hap.2.2.2]
  rw [hap.2.1, hap.2.2.1] at h
  refine ⟨_, _, rfl, ?_⟩
  refine h.st 2 rfl rfl fun H3 h => ⟨_, h.rd 2 rfl _, nn_some ⟨_, h.rd 0 rfl _, ?_⟩⟩
  refine h.st 2 rfl rfl fun H4 h => k _ ?_
  have h := h.ordt [2, 0, 1] 3 (by decide) (by decide)
  unfold rbookA
  rw [if_pos rfl]
  exact h

theorem R12Trim_spec (hB : rows.length ≤ 1099511627776) (hs : syn ≤ rows.length) (hn : saved = true → 0 ≤ num) (h : SatL H (rbookA b2 sb saved num seg :: rreelA sb pb s :: refX pb rows syn :: F))
    (k0 : saved = false → K (.int .i64 19) H)
    (k1 : saved = true → (s.syn : Int) ≤ num → K (.int .i64 21) H)
    (k2 : saved = true → ¬ (s.syn : Int) ≤ num → syn < rows.length → ∀ H', SatL H' (rbookA b2 sb saved num seg :: rreelA sb pb s :: refX pb rows syn :: F) → K (.int .i64 21) H')
    (k3 : saved = true → ¬ (s.syn : Int) ≤ num → ¬ syn < rows.length → ∀ H', SatL H' (rbookA b2 sb saved num seg :: rreelA sb pb s :: refX pb (dropR seg rows) (dropR seg rows).length :: F) → K (.int .i64 0) H') :
    CallF Tryz.prog 27 #[.pointer (some ⟨b2, 0, none⟩)] H K := by
  refine R12_Trim.call ?_
  unfold R12_Trim.code
  cases saved with
  | false => exact ⟨_, h.rd 0 rfl _, fun _ => k0 rfl, fun hf => by cases hf⟩
  | true =>
    have hn := hn rfl
    refine ⟨_, h.rd 0 rfl _, fun hf => absurd (of_decide_eq_true hf) (by rw [if_pos rfl]; omega), fun _ => ⟨_, h.rd 0 rfl _, _, h.rd 0 rfl _, nn_some ⟨_, h.rd 1 rfl _, fun hc => k1 rfl (by have := of_decide_eq_true hc; rwa [if_pos rfl] at this), fun hc => ⟨_, h.rd 0 rfl _, _, h.rd 0 rfl _, ?_⟩⟩⟩⟩
    have hc : ¬ (s.syn : Int) ≤ num := by have := of_decide_eq_false hc; rwa [if_pos rfl] at this
    refine RDropR_spec (F := rbookA b2 sb true num seg :: F) hB hs (h.ordt [1, 2, 0] 3 (by decide) (by decide)) (fun hp H1 h => ⟨_, rfl, k2 rfl hc hp _ (h.ordt [2, 0, 1] 3 (by decide) (by decide))⟩) fun hp H1 h => ⟨_, rfl, k3 rfl hc hp _ (h.ordt [2, 0, 1] 3 (by decide) (by decide))⟩

theorem R12Open_spec (ok : RowsOk rows) (hB : rows.length ≤ 1099511627776) (h : SatL H (refX pb rows syn :: F))
    (k1 : openE most rows = 0 → ∀ (rs : List Ry) a c b2 sb H', rs.map Ry.rc = allM rows → SatL H' (rbookA b2 sb false 0 0 :: rreelA sb pb (opS most rows) :: slA 124 2 a rs.length c (flat encR rs) :: rowsR rs :: refX pb rows syn :: F) →
      K (.tuple #[.pointer (some ⟨b2, 0, none⟩), .slice a rs.length c, .int .i64 0]) H')
    (k2 : openE most rows ≠ 0 → ∀ H', SatL H' (refX pb rows syn :: F) → K (.tuple #[.pointer none, .slice none 0 0, .int .i64 (openE most rows)]) H') :
    CallF Tryz.prog 8 #[.pointer (some ⟨pb, 0, none⟩), .int .i64 most] H K := by
  refine R12_Open.call ?_
  unfold R12_Open.code
  refine ROpen_spec ok hB h (fun he rs a c sb H1 hrs h => ⟨_, _, _, _, _, rfl, (fun hf => by cases hf), fun _ => ?_⟩) fun he H1 h => ⟨_, _, _, _, _, rfl, fun _ => k2 he _ h, fun hf => by simp [he] at hf⟩
  exact h.al fun b H2 h => k1 he rs a c b sb _ hrs h

theorem told12_spec {x : RD} (ti : TI most rows syn s j) (hnum : saved = true → 0 ≤ num) (hj : j ≤ 900) (hx : x.bs.length ≤ 200) (hxb : isBytes x.bs) (hxc : x.bs.length ≤ x.c) (hn : wf64 x.n) (hl : ∀ H', SatL H' F → rdS H' x.a (x.bs.map U8))
    (h : SatL H (bookA bb rb saved num seg :: reelA rb db s :: diskX db rows syn :: rbookA b2 sb saved num seg :: rreelA sb pb s :: refX pb rows syn :: F))
    (k : ∀ bb' rb' b2' sb' rows' syn' s' saved' num' seg' H', TI most rows' syn' s' (j + 1) → (saved' = true → (0 : Int) ≤ num') → SatL H' (bookA bb' rb' saved' num' seg' :: reelA rb' db s' :: diskX db rows' syn' :: rbookA b2' sb' saved' num' seg' :: rreelA sb' pb s' :: refX pb rows' syn' :: F) →
      K (.tuple #[.pointer (some ⟨bb', 0, none⟩), .pointer (some ⟨b2', 0, none⟩), .bool true]) H') :
    CallF Tryz.prog 9 #[.pointer (some ⟨db, 0, none⟩), .pointer (some ⟨pb, 0, none⟩), .pointer (some ⟨bb, 0, none⟩), .pointer (some ⟨b2, 0, none⟩), .int .i64 most, .agg #[.int .i64 x.what, .int .i64 x.kind, .int .i64 x.n, .slice x.a x.bs.length x.c]] H K := by
  refine told12.call ?_
  unfold told12.code
  have hok := ti.ok (by omega)
  have hlen := ti.len
  have hseg := ti.seg
  have hseg0 := ti.seg0
  have hh : x.bs.length / 2 ≤ x.bs.length := Nat.div_le_self _ _
  have ew : IntKind.i64.wrap (Int.tdiv (x.bs.length : Int) 2) = ((x.bs.length / 2 : Nat) : Int) := by rw [tdiv2, w64 (by omega) (by omega)]
  have htk : (x.bs.take (x.bs.length / 2)).length = x.bs.length / 2 := by rw [List.length_take]; omega
  have hdr : (x.bs.drop (x.bs.length / 2)).length = x.bs.length - x.bs.length / 2 := List.length_drop
  have hr1 : ∀ H', SatL H' F → rdS H' (slB x.a 0 x.c 1) ((x.bs.take (x.bs.length / 2)).map U8) := fun H' h' => by
    have := ((hl H' h').take (x.bs.length / 2)).sb0 (m := x.c)
    rwa [← List.map_take] at this
  have hr2 : ∀ H', SatL H' F → rdS H' (slB x.a (x.bs.length / 2) x.c 1) ((x.bs.drop (x.bs.length / 2)).map U8) := fun H' h' => by
    have := (hl H' h').subB (k := x.bs.length / 2) (c := x.c) (by simpa using hxc)
    rwa [← List.map_drop] at this
  refine h.al fun b _ h => ⟨_, _, _, h.rd 0 rfl _, by decide, _, h.rd 0 rfl _, fun hc => ?_, fun n0 => ?_⟩
  · refine ⟨_, h.rd 0 rfl _, _, _, _, h.rd 0 rfl _, ?_⟩
    rw [ew, Int.toNat_natCast]
    refine ⟨⟨by omega, by omega, by omega⟩, _, _, _, h.rd 0 rfl _, ⟨by omega, by omega, by omega⟩, ?_⟩
    generalize x.bs.length / 2 = q at *
    rw [show Value.slice (slB x.a 0 x.c 1) q x.c = .slice (slB x.a 0 x.c 1) (x.bs.take q).length x.c by rw [htk], show Value.slice (slB x.a q x.c 1) (x.bs.length - q) (x.c - q) = .slice (slB x.a q x.c 1) (x.bs.drop q).length (x.c - q) by rw [hdr]]
    refine CopyBytes_own h (fun H h => hr1 H h.tl.tl.tl.tl.tl.tl.tl) (by omega) fun na nc H2 h => ⟨_, _, _, rfl, h.rd 1 rfl _, h.rd 1 rfl _, ?_⟩
    refine CopyBytes_own h (fun H h => hr2 H h.tl.tl.tl.tl.tl.tl.tl.tl) (by omega) fun ma mc H3 h => ⟨_, _, _, rfl, h.rd 2 rfl _, ?_⟩
    refine h.al fun b1 H4 h => ⟨h.rd 3 rfl _, ?_⟩
    have efl : ([⟨na, nc, x.bs.take q⟩, ⟨ma, mc, x.bs.drop q⟩] : List Fy).flatMap Fy.bs = x.bs := by
      simp only [List.flatMap_cons, List.flatMap_nil, List.append_nil, List.take_append_drop]
    have h := h.ordt [4, 5, 6, 0, 1, 2, 3, 7, 8, 9] 10 (by decide) (by decide)
    refine BAppend_spec h (fun hk => ⟨_, _, rfl, _, h.rd 6 rfl _, _, _, _, h.rd 6 rfl _, ?_⟩) fun hk => ?_
    · refine R12Append_spec (F := _) (h.ordt [7, 0, 1, 2, 8, 9] 10 (by decide) (by decide)) (fun _ => ⟨_, _, rfl, ?_⟩) fun hf => absurd hk hf
      rw [decide_eq_true rfl, decide_eq_true rfl]
      exact k bb rb b2 sb rows syn s saved num seg _ ti.mono hnum (h.ordt [0, 1, 2, 7, 8, 9] 10 (by decide) (by decide))
    · have hp2 : ∀ (H : Heap) (G : List Assn), SatL H (cellsA b1 [.slice na (x.bs.take q).length nc, .slice ma (x.bs.drop q).length mc] 32 :: slA 5 1 ma (x.bs.drop q).length mc ((x.bs.drop q).map U8) :: slA 5 1 na (x.bs.take q).length nc ((x.bs.take q).map U8) :: G) → ∀ y ∈ ([⟨na, nc, x.bs.take q⟩, ⟨ma, mc, x.bs.drop q⟩] : List Fy), rdS H y.a (y.bs.map U8) := by
        intro H G h y hy
        simp only [List.mem_cons, List.not_mem_nil, or_false] at hy
        rcases hy with rfl | rfl
        · exact h.sl_rd 2 rfl
        · exact h.sl_rd 1 rfl
      refine AppendR_spec (rows := rows) (s := s) (F := cellsA b1 [.slice na (x.bs.take q).length nc, .slice ma (x.bs.drop q).length mc] 32 :: slA 5 1 ma (x.bs.drop q).length mc ((x.bs.drop q).map U8) :: slA 5 1 na (x.bs.take q).length nc ((x.bs.take q).map U8) :: cellsA b (encD x) 46 :: bookA bb rb saved num seg :: rbookA b2 sb saved num seg :: rreelA sb pb s :: refX pb rows syn :: F) (c := 2)
        (parts := [⟨na, nc, x.bs.take q⟩, ⟨ma, mc, x.bs.drop q⟩]) hok (by omega) (h.ordt [1, 2, 3, 4, 5, 6, 0, 7, 8, 9] 10 (by decide) (by decide)) (fun H h => h.ce_rd 0 rfl) (fun H h => hp2 H _ h) (by rw [efl]; exact hxb) (Nat.le_of_ble_eq_true rfl) (by rw [efl]; omega) fun H5 h => ⟨_, _, rfl, _, _, rfl, _, h.rd 5 rfl _, _, _, _, h.rd 5 rfl _, ?_⟩
      rw [efl] at h ⊢
      refine R12Append_spec (F := reelA rb db (appS rows s ⟨x.kind, x.bs⟩) :: diskX db (appRows rows s ⟨x.kind, x.bs⟩) syn :: bookA bb rb saved num seg :: rreelA sb pb s :: refX pb rows syn :: F) (h.ordt [7, 0, 1, 6, 8, 9] 10 (by decide) (by decide)) (fun hf => absurd hf hk) fun _ => ?_
      refine RAppendR_spec (F := reelA rb db (appS rows s ⟨x.kind, x.bs⟩) :: diskX db (appRows rows s ⟨x.kind, x.bs⟩) syn :: bookA bb rb saved num seg :: rbookA b2 sb saved num seg :: F) hok (by omega) (h.ordt [8, 9, 0, 1, 6, 7] 10 (by decide) (by decide)) (fun H h => hl H h.tl.tl.tl.tl) hxb (by omega) fun H6 h => ⟨_, _, rfl, _, _, rfl, ?_⟩
      rw [decide_eq_true rfl, decide_eq_true rfl]
      exact k bb rb b2 sb _ _ _ saved num seg _ (ti.append (by omega) hxb hx) hnum (h.ordt [4, 2, 3, 5, 0, 1] 6 (by decide) (by decide))
  intro Jn hJ
  have fin : ∀ rows' syn' s' saved' num' seg' H', TI most rows' syn' s' (j + 1) → (saved' = true → (0 : Int) ≤ num') → SatL H' (bookA bb rb saved' num' seg' :: reelA rb db s' :: diskX db rows' syn' :: rbookA b2 sb saved' num' seg' :: rreelA sb pb s' :: refX pb rows' syn' :: F) → Jn H' := by
    intro rows' syn' s' saved' num' seg' H' ti' hn' h'
    refine hJ _ ?_
    unfold told12.r1
    exact k _ _ _ _ _ _ _ _ _ _ _ ti' hn' h'
  refine ⟨fun hc => ⟨_, h.rd 1 rfl _, ?_⟩, fun n1 => ⟨fun hc => ?_, fun n2 => ⟨fun hc => ?_, fun n3 => ⟨fun hc => ?_, fun n4 => ?_⟩⟩⟩⟩
  · refine RSyncR_spec (F := bookA bb rb saved num seg :: rbookA b2 sb saved num seg :: rreelA sb pb s :: refX pb rows syn :: F) (h.ordt [2, 3, 1, 4, 5, 6] 7 (by decide) (by decide)) fun H1 h => ⟨rfl, ?_⟩
    refine RSync_spec (F := reelA rb db { s with syn := s.next } :: diskX db rows rows.length :: bookA bb rb saved num seg :: rbookA b2 sb saved num seg :: rreelA sb pb s :: F) (h.ordt [5, 0, 1, 2, 3, 4] 6 (by decide) (by decide)) fun H2 h => ⟨rfl, _, h.rd 4 rfl _, _, h.rd 4 rfl _, nn_some ⟨_, h.rd 5 rfl _, nn_some ?_⟩⟩
    refine h.st 5 rfl rfl fun H3 h => fin _ _ _ saved num seg _ ti.sync hnum ?_
    exact h.ordt [3, 1, 2, 4, 5, 0] 6 (by decide) (by decide)
  · refine ⟨_, _, _, h.rd 0 rfl _, ?_⟩
    rw [ew, Int.toNat_natCast]
    refine ⟨⟨by omega, by omega, by omega⟩, _, _, _, h.rd 0 rfl _, ⟨by omega, by omega, by omega⟩, ?_⟩
    generalize x.bs.length / 2 = q at *
    rw [show Value.slice (slB x.a 0 x.c 1) q x.c = .slice (slB x.a 0 x.c 1) (x.bs.take q).length x.c by rw [htk], show Value.slice (slB x.a q x.c 1) (x.bs.length - q) (x.c - q) = .slice (slB x.a q x.c 1) (x.bs.drop q).length (x.c - q) by rw [hdr]]
    refine CopyBytes_own h (fun H h => hr1 H h.tl.tl.tl.tl.tl.tl.tl) (by omega) fun na nc H2 h => ⟨_, _, _, rfl, h.rd 1 rfl _, ?_⟩
    refine CopyBytes_own h (fun H h => hr2 H h.tl.tl.tl.tl.tl.tl.tl.tl) (by omega) fun ma mc H3 h => ⟨_, _, _, rfl, ?_⟩
    refine h.al fun b1 H4 h => ?_
    have efl : ([⟨na, nc, x.bs.take q⟩, ⟨ma, mc, x.bs.drop q⟩] : List Fy).flatMap Fy.bs = x.bs := by
      simp only [List.flatMap_cons, List.flatMap_nil, List.append_nil, List.take_append_drop]
    have hrok : (⟨0, x.bs⟩ : Rc).ok := ⟨Int.le_refl 0, by show (0 : Int) ≤ 255; decide, by show x.bs.length ≤ 262144; omega, hxb⟩
    refine Save_spec (F := cellsA b1 [.slice na (x.bs.take q).length nc, .slice ma (x.bs.drop q).length mc] 32 :: slA 5 1 ma (x.bs.drop q).length mc ((x.bs.drop q).map U8) :: slA 5 1 na (x.bs.take q).length nc ((x.bs.take q).map U8) :: cellsA b (encD x) 46 :: rbookA b2 sb saved num seg :: rreelA sb pb s :: refX pb rows syn :: F) (c := 2)
      (parts := [⟨na, nc, x.bs.take q⟩, ⟨ma, mc, x.bs.drop q⟩]) hok (by omega) ti.files (by omega) (h.ordt [4, 5, 6, 0, 1, 2, 3, 7, 8, 9] 10 (by decide) (by decide)) (fun H h => h.ce_rd 0 rfl) (fun H h y hy => by
        simp only [List.mem_cons, List.not_mem_nil, or_false] at hy
        rcases hy with rfl | rfl
        · exact h.sl_rd 2 rfl
        · exact h.sl_rd 1 rfl) (by rw [efl]; exact hxb) (Nat.le_of_ble_eq_true rfl) (by rw [efl]; omega) fun H5 h => ⟨_, _, rfl, _, _, _, h.rd 6 rfl _, ?_⟩
    rw [efl] at h
    refine R12Save_spec (F := bookA bb rb true s.next (s.seg + 1) :: reelA rb db { s with seg := s.seg + 1, next := s.next + 1 } :: diskX db (rows ++ (recB ⟨0, x.bs⟩).map fun b => (s.seg + 1, b)) syn :: F) hok (by omega) ti.files (by omega) (h.ordt [7, 8, 9, 0, 1, 2] 10 (by decide) (by decide)) (fun H h => hl H h.tl.tl.tl) hxb (by omega) fun H6 h => ⟨_, _, rfl, ?_⟩
    rw [decide_eq_true rfl, decide_eq_true rfl]
    exact k bb rb b2 sb _ _ _ true s.next (s.seg + 1) _ (ti.save (by omega) hrok hx) (fun _ => by omega) (h.ordt [3, 4, 5, 0, 1, 2] 6 (by decide) (by decide))
  · have h1 := h.ordt [1, 2, 3, 0, 4, 5, 6] 7 (by decide) (by decide)
    refine Trim_spec (by omega) ti.syn h1 (fun hs0 => ⟨_, rfl, ?_⟩) (fun hs1 hle => ⟨_, rfl, ?_⟩) (fun hs1 hle hp H1 h => ⟨_, rfl, ?_⟩) fun hs1 hle hp H1 h => ⟨_, rfl, ?_⟩
    · refine R12Trim_spec (by omega) ti.syn hnum (h1.ordt [4, 5, 6, 0, 1, 2] 7 (by decide) (by decide)) (fun _ => ⟨_, rfl, ?_⟩) (fun hf => by rw [hs0] at hf; cases hf) (fun hf => by rw [hs0] at hf; cases hf) (fun hf => by rw [hs0] at hf; cases hf)
      rw [decide_eq_true rfl]
      exact k bb rb b2 sb rows syn s saved num seg _ ti.mono hnum (h1.ordt [0, 1, 2, 4, 5, 6] 7 (by decide) (by decide))
    · refine R12Trim_spec (by omega) ti.syn hnum (h1.ordt [4, 5, 6, 0, 1, 2] 7 (by decide) (by decide)) (fun hf => by rw [hs1] at hf; cases hf) (fun _ _ => ⟨_, rfl, ?_⟩) (fun _ hf => absurd hle hf) (fun _ hf => absurd hle hf)
      rw [decide_eq_true rfl]
      exact k bb rb b2 sb rows syn s saved num seg _ ti.mono hnum (h1.ordt [0, 1, 2, 4, 5, 6] 7 (by decide) (by decide))
    · refine R12Trim_spec (by omega) ti.syn hnum (h.ordt [4, 5, 6, 0, 1, 2] 7 (by decide) (by decide)) (fun hf => by rw [hs1] at hf; cases hf) (fun _ hf => absurd hf hle) (fun _ _ _ H2 h => ⟨_, rfl, ?_⟩) (fun _ _ hf => absurd hp hf)
      rw [decide_eq_true rfl]
      exact k bb rb b2 sb rows syn s saved num seg _ ti.mono hnum (h.ordt [3, 4, 5, 0, 1, 2] 6 (by decide) (by decide))
    · refine R12Trim_spec (by omega) ti.syn hnum (h.ordt [4, 5, 6, 0, 1, 2] 7 (by decide) (by decide)) (fun hf => by rw [hs1] at hf; cases hf) (fun _ hf => absurd hf hle) (fun _ _ hf => absurd hf hp) (fun _ _ _ H2 h => ⟨_, rfl, ?_⟩)
      rw [decide_eq_true rfl]
      exact k bb rb b2 sb _ _ _ saved num seg _ (ti.drop seg) hnum (h.ordt [3, 4, 5, 0, 1, 2] 6 (by decide) (by decide))
  · obtain ⟨ti', hop⟩ := ti.crash (by omega) x.n
    have hcl := crashR_le rows syn x.n
    refine ⟨_, h.rd 0 rfl _, ?_⟩
    refine Crash_spec (F := cellsA b (encD x) 46 :: refX pb rows syn :: F) hn (by omega) (h.ordt [3, 0, 6] 7 (by decide) (by decide)) fun H1 h => ⟨rfl, _, h.rd 1 rfl _, ?_⟩
    refine RCrash_spec (F := diskX db (crashR rows syn x.n) (crashR rows syn x.n).length :: F) hn (by omega) ti.syn (h.ordt [2, 0] 3 (by decide) (by decide)) fun H2 h => ⟨rfl, ?_⟩
    obtain ⟨rows', hrows'⟩ : ∃ r, crashR rows syn x.n = r := ⟨_, rfl⟩
    rw [hrows'] at h ti' hop hcl
    refine BOpen_spec (F := refX pb rows' rows'.length :: F) ti'.rok (by omega) (h.ordt [1, 0] 2 (by decide) (by decide)) (fun _ rs qs fy has a1 c1 bb' rb' H3 hrs ht h => ⟨_, _, _, _, _, _, _, _, _, rfl, ?_⟩) fun hf => absurd hop hf
    refine h.al fun b3 H4 h => h.st 0 rfl rfl fun H5 h => ?_
    refine R12Open_spec (F := cellsA b3 [encY fy, .bool has, .slice a1 qs.length c1] 35 :: bookA bb' rb' false 0 0 :: reelA rb' db (opS most rows') :: slA 64 2 a1 qs.length c1 (flat encR qs) :: rowsR rs :: diskX db rows' rows'.length :: F) ti'.rok (by omega) (h.ordt [6, 0, 1, 2, 3, 4, 5] 7 (by decide) (by decide)) (fun _ as' a2 c2 b2' sb' H6 has' h => ⟨_, _, _, _, _, rfl, fun Jn1 hJ1 => ?_⟩) fun hf => absurd hop hf
    obtain ⟨r1, r2⟩ := recs_short ti'.rok hrs
    obtain ⟨m1, m2⟩ := recs_short ti'.rok has'
    have hnc := h.sl_nc 2 rfl
    refine ⟨fun _ => trivial, _, fun _ => h.rd 6 rfl _, _, _, _, _, _, _, _, fun _ => h.rds 5 rfl rfl, fun _ => ?_, fun hf => absurd (by simp) hf⟩
    refine same_spec h (fun H h => h.sl_rd 8 rfl) (fun H h => h.sl_rd 2 rfl) (fun H h => rowsR_rd (h.ordt [9] 11 (by decide) (by decide))) (fun H h => rowsR_rd (h.ordt [3] 11 (by decide) (by decide))) ht (by rw [hrs, has']) (by omega) (by omega) hnc r2 fun H7 h => ⟨_, rfl, hJ1 _ _ _ _ ?_⟩
    unfold told12.r2
    exact k bb' rb' b2' sb' _ _ _ false 0 0 _ ti' (fun hf => by cases hf) (h.ordt [6, 7, 10, 0, 1, 4] 11 (by decide) (by decide))
  · exact fin rows syn s saved num seg _ ti.mono hnum h.tl
end
section
variable {H0 : Heap} {ca : Option Addr} {cc : Nat} {most : Int}
theorem BookCalls_true {calls : List RD} (hlen0 : calls.length ≤ maxLen) (hc : rdS H0 ca (flat encD calls)) (hq : ∀ x ∈ calls, BCallOk H0 x) :
    CallF Tryz.prog 3 #[.int .i64 most, .slice ca calls.length cc] H0 fun v H' => v = .bool true ∧ Grow H0 H' := by
  refine BookCalls.call ?_
  unfold BookCalls.code
  refine alive47_spec (sat0 H0) fun H1 h => ⟨_, rfl, (fun hf => by cases hf), fun _ => ?_⟩
  refine ⟨_, great_spec (h.old_rd 0 rfl hc) hlen0, fun _ => ⟨rfl, h.old_grow 0 rfl⟩, fun hg => ?_⟩
  obtain ⟨hlen, hbig⟩ := great36_no hg
  have ok0 : RowsOk ([] : DR) := fun r hr => by cases hr
  refine New_spec h fun db H2 h => ⟨_, rfl, h.al fun pb _ h => ⟨(fun hf => by cases hf), fun _ => ?_⟩⟩
  have h := (refX_shut (rows := []) (syn := 0) ((h.sl_nil 108 2).ordt [1, 0, 2] 3 (by decide) (by decide))).ordt [1, 0] 2 (by decide) (by decide)
  refine BOpen_spec ok0 (Nat.zero_le _) h (fun he rs qs fy has a1 c1 bb rb H3 hrs ht h => ⟨_, _, _, _, _, _, _, _, _, rfl, ?_⟩) fun he H3 h => ⟨_, _, _, _, _, _, _, _, _, rfl, ?_⟩
  · have hrs : rs = [] := by
      rw [ex_all.2.1] at hrs
      simpa using hrs
    subst hrs
    have htl := ht.tell
    have hhas : has = false := by
      cases has
      · rfl
      · cases htl
    subst hhas
    have hfy := ht.no rfl
    subst hfy
    have hqs : qs = [] := by
      have := ht.len
      simpa using this
    subst hqs
    refine h.al fun b1 H4 h => h.st 0 rfl rfl fun H5 h => ?_
    refine R12Open_spec (F := cellsA b1 [.slice none 0 0, .bool false, .slice a1 0 c1] 35 :: bookA bb rb false 0 0 :: reelA rb db (opS most []) :: diskX db [] 0 :: [old H0]) ok0 (Nat.zero_le _) (h.ordt [6, 0, 1, 2, 5] 7 (by decide) (by decide)) (fun _ as' a2 c2 b2 sb H6 has' h => ⟨_, _, _, _, _, rfl, ?_⟩) fun hf => absurd he hf
    refine ⟨_, fun _ => h.rd 5 rfl _, _, _, _, fun _ => h.rd 5 rfl _, _, _, _, fun _ => h.rd 5 rfl _, (fun hf => by simp at hf; exact absurd (show IntKind.i64.wrap 0 = 0 by decide) hf), fun _ => ⟨(fun hf => by cases hf), fun _ => ?_⟩⟩
    refine ⟨fun p q i H' => ∃ (bb rb b2 sb : Nat) (rows : DR) (syn : Nat) (s : RL) (saved : Bool) (num seg : Int) (j : Nat), p = some ⟨bb, 0, none⟩ ∧ q = some ⟨b2, 0, none⟩ ∧ i = j ∧ j ≤ calls.length ∧ TI most rows syn s j ∧ (saved = true → 0 ≤ num) ∧
      SatL H' (bookA bb rb saved num seg :: reelA rb db s :: diskX db rows syn :: rbookA b2 sb saved num seg :: rreelA sb pb s :: refX pb rows syn :: [old H0]), fun _ _ i _ => calls.length - i.toNat,
      ⟨bb, rb, b2, sb, [], 0, _, false, 0, 0, 0, rfl, rfl, rfl, Nat.zero_le _, ti0 he, (fun hf => by cases hf), h.ordt [6, 7, 8, 0, 1, 4] 9 (by decide) (by decide)⟩, ?_⟩
    rintro p q i H7 ⟨bb, rb, b2, sb, rows, syn, s, saved, num, seg, j, rfl, rfl, rfl, hj, ti, hnum, h⟩
    unfold BookCalls.l2
    refine ⟨fun hx => ?_, fun _ => ⟨rfl, h.old_grow 6 rfl⟩⟩
    have hlt : j < calls.length := by simpa using hx
    have hr := h.old_rd 6 rfl hc
    have hm := List.getElem_mem hlt
    have hxo := hq _ hm
    have hxb := hbig _ hm
    refine ⟨⟨by omega, by omega⟩, _, _, hr.some encD_len (by omega) hlt, _, _, _, _, _, _, hr.els encD_len hlt, ?_⟩
    generalize calls[j] = x at *
    refine told12_spec ti hnum (by omega) hxb hxo.2.2.1 hxo.2.2.2 hxo.2.1 (fun H' h' => h'.old_rd 0 rfl hxo.1) h fun bb' rb' b2' sb' rows' syn' s' saved' num' seg' H8 ti' hnum' h => ⟨_, _, _, rfl, fun Jn hJ => ⟨fun _ => ?_, fun hf => absurd rfl hf⟩⟩
    have hlen' := ti'.len
    refine Agree_spec (s := (rows', syn')) (F := bookA bb' rb' saved' num' seg' :: reelA rb' db s' :: rbookA b2' sb' saved' num' seg' :: rreelA sb' pb s' :: [old H0]) (by dsimp only; omega) ti'.syn (h.ordt [2, 5, 0, 1, 3, 4] 6 (by decide) (by decide)) fun H9 h => ⟨_, rfl, ?_⟩
    have h2 : SatL H9 (bookA bb' rb' saved' num' seg' :: reelA rb' db s' :: diskX db rows' syn' :: rbookA b2' sb' saved' num' seg' :: rreelA sb' pb s' :: refX pb rows' syn' :: [old H0]) := h.ordt [2, 3, 0, 4, 5, 1] 6 (by decide) (by decide)
    refine ⟨fun _ => trivial, _, fun _ => h2.rd 0 rfl _, _, fun _ => Next_spec h2.tl, fun _ => trivial, _, fun _ => h2.rd 3 rfl _, fun _ => trivial, _, fun _ => h2.rd 4 rfl _, fun _ => trivial, _, fun _ => h2.rd 0 rfl _, _, fun _ => Synced_spec h2.tl, fun _ => trivial, _, fun _ => h2.rd 3 rfl _, fun _ => trivial, _, fun _ => h2.rd 4 rfl _,
      fun _ => trivial, _, fun _ => h2.rd 0 rfl _, _, fun _ => Segment_spec h2.tl, fun _ => trivial, _, fun _ => h2.rd 3 rfl _, fun _ => trivial, _, fun _ => h2.rd 4 rfl _, hJ _ _ ?_⟩
    unfold BookCalls.r1
    refine ⟨fun hf => by simp at hf, fun _ => ?_⟩
    rw [w64 (x := (j : Int) + 1) (by omega) (by omega)]
    exact ⟨⟨_, _, _, _, _, _, _, _, _, _, j + 1, rfl, rfl, rfl, hlt, ti', hnum', h2⟩, by simp only [Int.toNat_natCast]; omega⟩
  · refine h.al fun b1 H4 h => h.st 0 rfl rfl fun H5 h => ?_
    refine R12Open_spec (F := cellsA b1 [.slice none 0 0, .bool false, .slice none 0 0] 35 :: diskX db [] 0 :: [old H0]) ok0 (Nat.zero_le _) (h.ordt [2, 0, 1] 3 (by decide) (by decide)) (fun hf => absurd hf he) fun _ H6 h => ⟨_, _, _, _, _, rfl, ?_⟩
    refine ⟨_, fun _ => h.rd 1 rfl _, _, _, _, fun _ => h.rd 1 rfl _, _, _, _, fun _ => h.rd 1 rfl _, (fun hf => by simp at hf; exact absurd (show IntKind.i64.wrap 0 = 0 by decide) hf), fun _ => ⟨fun _ => ⟨rfl, h.old_grow 3 rfl⟩, (fun hf => by cases hf)⟩⟩
end
end Go.Proofs.YtomdcdfcdeaabaaGreat
