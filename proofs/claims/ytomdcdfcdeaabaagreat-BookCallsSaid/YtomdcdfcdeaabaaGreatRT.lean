/-
  Calls on a reel: both sides by one model. ReelCalls, ReelOpens.
-/
import Derived.Test.YtomdcdfcdeaabaaGreatRQ
set_option linter.unusedVariables false
set_option linter.unusedSimpArgs false
namespace Go.Nm
open Go
structure RD where
  what : Int
  kind : Int
  n : Int
  a : Option Addr
  c : Nat
  bs : List Int
abbrev encD (x : RD) : List Value := [.int .i64 x.what, .int .i64 x.kind, .int .i64 x.n, .slice x.a x.bs.length x.c]
theorem encD_len (x : RD) : (encD x).length = 4 := rfl
/-- What holds behind j calls. -/
structure TI (most : Int) (rows : DR) (syn : Nat) (s : RL) (j : Nat) : Prop where
  rok : RowsOk rows
  files : ∀ r ∈ rows, r.1 ≤ s.seg
  syn : syn ≤ rows.length
  seg0 : 0 ≤ s.seg
  seg : s.seg ≤ j
  len : rows.length ≤ 300 * j
  next : s.next ≤ 300 * j
  ssyn : s.syn ≤ 300 * j
  hm : s.most = most
  range : 64 ≤ most ∧ most ≤ 1048576
theorem TI.ok {most : Int} {rows : DR} {syn : Nat} {s : RL} {j : Nat} (h : TI most rows syn s j) (hj : j ≤ 1000) : s.ok := by
  have h1 := h.seg0
  have h2 := h.seg
  have h3 := h.next
  have h4 := h.ssyn
  have h5 := h.hm
  have h6 := h.range
  exact ⟨by omega, by omega, by omega, by omega⟩
theorem TI.mono {most : Int} {rows : DR} {syn : Nat} {s : RL} {j : Nat} (h : TI most rows syn s j) : TI most rows syn s (j + 1) :=
  ⟨h.rok, h.files, h.syn, h.seg0, by have := h.seg; omega, by have := h.len; omega, by have := h.next; omega, by have := h.ssyn; omega, h.hm, h.range⟩
theorem appS_seg2 {rows : DR} {s : RL} {r : Rc} : s.seg ≤ (appS rows s r).seg ∧ (appS rows s r).seg ≤ s.seg + 1 ∧ (appS rows s r).next ≤ s.next + 1 ∧ (appS rows s r).syn = s.syn ∧ (appS rows s r).most = s.most := by
  unfold appS
  split
  · exact ⟨by omega, by omega, by omega, rfl, rfl⟩
  · dsimp only
    split <;> exact ⟨by omega, by omega, by omega, rfl, rfl⟩
theorem TI.append {most : Int} {rows : DR} {syn : Nat} {s : RL} {j : Nat} (h : TI most rows syn s j) (hj : j ≤ 1000) {r : Rc} (hb : isBytes r.data) (hl : r.data.length ≤ 200) :
    TI most (appRows rows s r) syn (appS rows s r) (j + 1) := by
  have hs := appS_seg2 (rows := rows) (s := s) (r := r)
  have hr := appS_seg (rows := rows) (r := r) (h.ok hj)
  have h1 := h.seg0
  have h2 := h.seg
  have h3 := h.next
  have h4 := h.ssyn
  have h5 := h.len
  have h6 := h.files
  have h7 := h.syn
  by_cases he : appE rows s r = 0
  · have hok := appE_ok hb he
    have hrl := recB_len hok
    have e : appRows rows s r = rows ++ (recB r).map fun b => ((appS rows s r).seg, b) := by unfold appRows; rw [if_neg (by rw [he]; decide)]
    rw [e]
    refine ⟨h.rok.app hr (recB_bytes hok), fun x hx => ?_, by rw [List.length_append]; omega, by omega, by omega, by rw [List.length_append, List.length_map]; omega, by omega, by omega, by rw [hs.2.2.2.2]; exact h.hm, h.range⟩
    rcases List.mem_append.1 hx with hx | hx
    · have := h6 x hx; omega
    · obtain ⟨b, _, rfl⟩ := List.mem_map.1 hx
      exact Int.le_refl _
  · have e : appRows rows s r = rows := by unfold appRows; rw [if_pos he]
    have e2 : appS rows s r = s := by unfold appS; rw [if_pos he]
    rw [e, e2]
    exact h.mono
theorem TI.sync {most : Int} {rows : DR} {syn : Nat} {s : RL} {j : Nat} (h : TI most rows syn s j) : TI most rows rows.length { s with syn := s.next } (j + 1) :=
  ⟨h.rok, h.files, Nat.le_refl _, h.seg0, by have := h.seg; dsimp only; omega, by have := h.len; omega, by have := h.next; dsimp only; omega, by have := h.next; dsimp only; omega, h.hm, h.range⟩
theorem TI.turn {most : Int} {rows : DR} {syn : Nat} {s : RL} {j : Nat} (h : TI most rows syn s j) : TI most rows syn { s with seg := s.seg + 1 } (j + 1) :=
  ⟨h.rok, fun r hr => by have := h.files r hr; dsimp only; omega, h.syn, by have := h.seg0; dsimp only; omega, by have := h.seg; dsimp only; omega, by have := h.len; omega, by have := h.next; dsimp only; omega, by have := h.ssyn; dsimp only; omega, h.hm, h.range⟩
theorem TI.drop {most : Int} {rows : DR} {syn : Nat} {s : RL} {j : Nat} (h : TI most rows syn s j) (below : Int) : TI most (dropR below rows) (dropR below rows).length s (j + 1) := by
  have hl : (dropR below rows).length ≤ rows.length := List.length_filter_le _ _
  have h5 := h.len
  exact ⟨h.rok.filter _, fun r hr => h.files r (List.mem_filter.1 hr).1, Nat.le_refl _, h.seg0, by have := h.seg; omega, by omega, by have := h.next; omega, by have := h.ssyn; omega, h.hm, h.range⟩
theorem segOf_le {rows : DR} {g : Int} (h0 : 0 ≤ g) (h : ∀ r ∈ rows, r.1 ≤ g) : segOf rows ≤ g + 1 := by
  cases hn : (filesOf rows).length with
  | zero => rw [segOf_nil hn]; omega
  | succ n =>
    obtain ⟨f, h1, h2, h3⟩ := segOf_cons hn.symm
    obtain ⟨r, hr, rfl⟩ := List.mem_map.1 (mem_filesOf.1 h3)
    have := h r hr
    omega
theorem segOf_files {rows : DR} (hok : RowsOk rows) : ∀ r ∈ rows, r.1 ≤ segOf rows := by
  intro r hr
  have hf : r.1 ∈ filesOf rows := mem_filesOf.2 (List.mem_map.2 ⟨r, hr, rfl⟩)
  obtain ⟨i, hi, he⟩ := List.getElem_of_mem hf
  obtain ⟨n, hn⟩ : ∃ n, n + 1 = (filesOf rows).length := ⟨(filesOf rows).length - 1, by omega⟩
  obtain ⟨f, h1, h2, h3⟩ := segOf_cons hn
  have hnl : n < (filesOf rows).length := by omega
  rw [List.getElem?_eq_getElem hnl] at h1
  have h1 := Option.some.inj h1
  rw [h2, ← he, ← h1]
  rcases Nat.lt_or_ge i n with h | h
  · have := List.pairwise_iff_getElem.1 (filesOf_rising rows) i n hi hnl h
    omega
  · have : i = n := by omega
    subst this
    omega
theorem TI.crash {most : Int} {rows : DR} {syn : Nat} {s : RL} {j : Nat} (h : TI most rows syn s j) (hj : j ≤ 1000) (keep : Int) :
    TI most (crashR rows syn keep) (crashR rows syn keep).length ⟨most, segOf (crashR rows syn keep), (allM (crashR rows syn keep)).length, (allM (crashR rows syn keep)).length⟩ (j + 1) ∧ openE most (crashR rows syn keep) = 0 := by
  have hl := crashR_le rows syn keep
  have h5 := h.len
  have h2 := h.seg
  have hok : RowsOk (crashR rows syn keep) := h.rok.take _
  have hs := segOf_le (rows := crashR rows syn keep) h.seg0 fun r hr => h.files r (List.mem_of_mem_take hr)
  have ha := allM_len hok
  have hr := segOf_in hok
  refine ⟨⟨hok, segOf_files hok, Nat.le_refl _, hr.1, by dsimp only; omega, by omega, by dsimp only; omega, by dsimp only; omega, rfl, h.range⟩, ?_⟩
  have h6 := h.range
  unfold openE
  rw [if_neg (by omega), if_neg (by omega)]
end Go.Nm
namespace Go.Proofs.YtomdcdfcdeaabaaGreat
open Go Go.Nm Go.Proofs
section
variable {F L : List Assn} {H : Heap} {K : Value → Heap → Prop} {rb db pb sb : Nat} {rows : DR} {syn : Nat} {s : RL} {most : Int} {j : Nat}

/-- Two halves of own bytes, as parts. -/
theorem halves {oa : Option Addr} {oc q : Nat} {bs : List Int} (hq : q ≤ bs.length) : [Value.slice (slB oa 0 oc 1) q oc, .slice (slB oa q oc 1) (bs.length - q) (oc - q)] = [(⟨slB oa 0 oc 1, oc, bs.take q⟩ : Fy), ⟨slB oa q oc 1, oc - q, bs.drop q⟩].map encY := by
  show _ = [Value.slice (slB oa 0 oc 1) (bs.take q).length oc, .slice (slB oa q oc 1) (bs.drop q).length (oc - q)]
  rw [List.length_take, List.length_drop, Nat.min_eq_left hq]

end
end Go.Proofs.YtomdcdfcdeaabaaGreat
namespace Go.Proofs.YtomdcdfcdeaabaaGreat
open Go Go.Nm Go.Proofs
def RCallOk (H0 : Heap) (x : RD) : Prop := rdS H0 x.a (x.bs.map U8) ∧ wf64 x.n ∧ isBytes x.bs
def DCallOk (H0 : Heap) (x : CD) : Prop := rdS H0 x.a (x.bs.map U8) ∧ wf64 x.keep ∧ isBytes x.bs
theorem great36_no {calls : List RD} (h : (!decide (calls.length ≤ 40 ∧ ∀ x ∈ calls, x.bs.length ≤ 200)) = false) : calls.length ≤ 40 ∧ ∀ x ∈ calls, x.bs.length ≤ 200 := by simpa using h
theorem ti0 {most : Int} (h : openE most [] = 0) : TI most [] 0 (opS most []) 0 := by
  obtain ⟨_, h2, h3⟩ := ex_all
  have hr : 64 ≤ most ∧ most ≤ 1048576 := by
    unfold openE at h
    split at h
    · cases h
    · omega
  unfold opS
  rw [h2, h3]
  exact ⟨fun r hr => (by cases hr), fun r hr => (by cases hr), Nat.le_refl _, Int.le_refl _, Int.le_refl _, Nat.le_refl _, Nat.le_refl _, Nat.le_refl _, rfl, hr⟩
section
variable {H0 : Heap} {ca : Option Addr} {cc : Nat} {most : Int}

theorem doD_ok {s : DR × Nat} {x : CD} (h : RowsOk s.1) (hx : isBytes x.bs) : RowsOk (doD s x).1 := by
  unfold doD
  split
  · split
    · exact h
    · exact h.app (by omega) hx
  · split
    · exact h
    · split
      · split
        · exact h
        · split
          · exact h
          · exact h.filter _
      · split
        · exact h.take _
        · exact h

end
end Go.Proofs.YtomdcdfcdeaabaaGreat
