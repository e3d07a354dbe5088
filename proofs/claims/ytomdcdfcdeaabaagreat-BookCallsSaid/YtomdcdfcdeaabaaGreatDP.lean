/-
  The disk, plainly: bytes in the order in which they were appended; its files; its pending pieces.
-/
import Derived.Test.YtomdcdfcdeaabaaGreatBY
set_option linter.unusedVariables false
set_option linter.unusedSimpArgs false
namespace Go.Nm
open Go

/-! ### rows of assertions, in any order -/
theorem star_perm {l l' : List Assn} (h : l.Perm l') : star l = star l' := by
  induction h with
  | nil => rfl
  | cons x _ ih => simp only [star, ih]
  | swap x y l => simp only [star]; rw [sep_left_comm]
  | trans _ _ ih1 ih2 => exact ih1.trans ih2
section
variable {κ α : Type} [DecidableEq κ]
theorem perm_mdel {x : κ} {v : α} {m : List (κ × α)} (hn : (keysOf m).Nodup) (h : mlook x m = some v) : m.Perm ((x, v) :: mdel x m) := by
  obtain ⟨i, h1, _⟩ := getElem?_of_mlook h
  have h2 := set_perm_mset (u := v) hn h1
  have h3 : m.set i (x, v) = m := by
    apply List.ext_getElem?
    intro j
    rw [List.getElem?_set]
    split
    · rename_i e; subst e
      rw [h1, if_pos (List.getElem?_eq_some_iff.1 h1).1]
    · rfl
  rw [h3] at h2
  exact h2
end

theorem sub_perm {α : Type} : ∀ {dn m : List α}, dn.Nodup → (∀ p ∈ dn, p ∈ m) → ∃ rest, (dn ++ rest).Perm m
  | [], m, _, _ => ⟨m, .refl _⟩
  | p :: dn, m, hn, h => by
    rw [List.nodup_cons] at hn
    obtain ⟨rest, hr⟩ := sub_perm hn.2 fun q hq => h q (List.mem_cons_of_mem _ hq)
    have hp : p ∈ rest := by
      rcases List.mem_append.1 (hr.mem_iff.2 (h p List.mem_cons_self)) with h1 | h1
      · exact absurd h1 hn.1
      · exact h1
    obtain ⟨r1, r2, rfl⟩ := List.append_of_mem hp
    refine ⟨r1 ++ r2, ?_⟩
    refine List.Perm.trans ?_ hr
    rw [List.cons_append, ← List.append_assoc, ← List.append_assoc]
    exact List.perm_middle.symm
theorem keys_nodup {κ α : Type} {m : List (κ × α)} (h : (keysOf m).Nodup) : m.Nodup := (List.pairwise_map.1 h).imp fun hh e => hh (by rw [e])

structure Fy where
  a : Option Addr
  c : Nat
  bs : List Int
def Fy.z : Fy := ⟨none, 0, []⟩
abbrev encY (y : Fy) : Value := .slice y.a y.bs.length y.c
abbrev YM := List (Int × Fy)
def rowY (y : Fy) : Assn := slA 5 1 y.a y.bs.length y.c (y.bs.map U8)
def rowsY (m : YM) : Assn := star (m.map fun p => rowY p.2)
theorem rowsY_perm {m m' : YM} (h : m.Perm m') : rowsY m = rowsY m' := star_perm (h.map _)
theorem rowsY_cons (k : Int) (y : Fy) (m : YM) : rowsY ((k, y) :: m) = rowY y * rowsY m := rfl
theorem rowsY_nil : rowsY [] = emp := rfl
theorem satL_emp {H : Heap} {L : List Assn} : SatL H (emp :: L) ↔ SatL H L := by unfold SatL; simp only [star]; rw [emp_sep]
theorem SatL.rowsY_out {H : Heap} {L : List Assn} {m : YM} {k : Int} {y : Fy} (hn : (keysOf m).Nodup) (hk : mlook k m = some y) : SatL H (rowsY m :: L) ↔ SatL H (rowY y :: rowsY (mdel k m) :: L) := by
  rw [rowsY_perm (perm_mdel hn hk), rowsY_cons]; exact satL_sep
theorem SatL.rowsY_in {H : Heap} {L : List Assn} {m : YM} {k : Int} {y : Fy} : SatL H (rowsY (mset k y m) :: L) ↔ SatL H (rowY y :: rowsY (mdel k m) :: L) := by
  unfold mset; rw [rowsY_cons]; exact satL_sep

/-! ### bytes in order -/
abbrev DR := List (Int × Int)
def bytesOf (f : Int) (rows : DR) : List Int := (rows.filter fun r => decide (r.1 = f)).map Prod.snd
theorem bytesOf_append (f : Int) (a b : DR) : bytesOf f (a ++ b) = bytesOf f a ++ bytesOf f b := by simp [bytesOf]
theorem bytesOf_same (f : Int) (bs : List Int) : bytesOf f (bs.map fun b => (f, b)) = bs := by
  induction bs with
  | nil => rfl
  | cons b r ih => simp only [bytesOf, List.map_cons, List.filter_cons, decide_true, if_true] at ih ⊢; rw [ih]
theorem bytesOf_other {f g : Int} (h : f ≠ g) (bs : List Int) : bytesOf f (bs.map fun b => (g, b)) = [] := by
  induction bs with
  | nil => rfl
  | cons b r ih =>
    have : ¬ g = f := fun e => h e.symm
    simp [bytesOf, List.filter_cons, this] at ih ⊢
    try exact ih
theorem bytesOf_all {f : Int} {t : DR} (h : ∀ r ∈ t, r.1 = f) : bytesOf f t = t.map Prod.snd := by
  unfold bytesOf
  rw [List.filter_eq_self.2 fun r hr => by simp [h r hr]]
theorem bytesOf_none {f g : Int} {t : DR} (h : ∀ r ∈ t, r.1 = f) (hg : g ≠ f) : bytesOf g t = [] := by
  unfold bytesOf
  rw [List.filter_eq_nil_iff.2 fun r hr => by simp [h r hr]; exact fun e => hg e.symm]
  rfl
theorem bytesOf_filter (f g : Int) (rows : DR) : bytesOf g (rows.filter fun r => decide (r.1 ≠ f)) = if g = f then [] else bytesOf g rows := by
  unfold bytesOf
  rw [List.filter_filter]
  split
  · rename_i e; subst e
    rw [List.filter_eq_nil_iff.2 fun r _ => by simp]; rfl
  · rename_i e
    congr 1
    apply List.filter_congr
    intro r _
    by_cases h : r.1 = g
    · simp [h, e]
    · simp [h]
theorem bytesOf_length_le (f : Int) (rows : DR) : (bytesOf f rows).length ≤ rows.length := by
  unfold bytesOf; rw [List.length_map]; exact List.length_filter_le _ _
theorem bytesOf_mem {f : Int} {rows : DR} : bytesOf f rows ≠ [] ↔ f ∈ rows.map Prod.fst := by
  unfold bytesOf
  rw [Ne, List.map_eq_nil_iff, List.filter_eq_nil_iff]
  constructor
  · intro h
    rcases Classical.em (f ∈ rows.map Prod.fst) with h2 | h2
    · exact h2
    · exact absurd (fun r hr => by simp; exact fun e => h2 (List.mem_map.2 ⟨r, hr, e⟩)) h
  · intro h h2
    obtain ⟨r, hr, e⟩ := List.mem_map.1 h
    have := h2 r hr
    simp [e] at this

structure FOk (m : YM) (rows : DR) : Prop where
  nd : (keysOf m).Nodup
  is : ∀ f, (mlook f m).map Fy.bs = if bytesOf f rows = [] then none else some (bytesOf f rows)
theorem FOk.new : FOk [] [] := ⟨by simp, fun f => by simp [bytesOf, mlook]⟩
theorem FOk.get {m : YM} {rows : DR} (h : FOk m rows) (f : Int) : ((mlook f m).getD Fy.z).bs = bytesOf f rows := by
  have := h.is f
  cases hm : mlook f m with
  | none =>
    rw [hm] at this
    split at this
    · rename_i e; rw [e]; rfl
    · cases this
  | some y =>
    rw [hm] at this
    split at this
    · cases this
    · exact Option.some.inj this
theorem FOk.some {m : YM} {rows : DR} (h : FOk m rows) {f : Int} {y : Fy} (hm : mlook f m = some y) : y.bs = bytesOf f rows ∧ y.bs ≠ [] := by
  have := h.is f
  rw [hm] at this
  split at this
  · cases this
  · rename_i hne
    have e := Option.some.inj this
    exact ⟨e, by rw [e]; exact hne⟩
theorem FOk.none {m : YM} {rows : DR} (h : FOk m rows) {f : Int} : mlook f m = none ↔ bytesOf f rows = [] := by
  have := h.is f
  constructor
  · intro hm
    rw [hm] at this
    split at this
    · assumption
    · cases this
  · intro hb
    rw [if_pos hb] at this
    exact Option.map_eq_none_iff.1 this
theorem FOk.keys {m : YM} {rows : DR} (h : FOk m rows) {f : Int} : f ∈ keysOf m ↔ f ∈ rows.map Prod.fst := by
  rw [← bytesOf_mem, Ne, ← h.none, mlook_none, Classical.not_not]
theorem FOk.append {m : YM} {rows : DR} (h : FOk m rows) {f : Int} {bs : List Int} {y : Fy} (hb : bs ≠ []) (hy : y.bs = bytesOf f rows ++ bs) : FOk (mset f y m) (rows ++ bs.map fun b => (f, b)) := by
  refine ⟨nodup_mset h.nd, fun g => ?_⟩
  rw [mlook_mset, bytesOf_append]
  by_cases e : g = f
  · subst e
    rw [if_pos rfl, bytesOf_same, if_neg (by simp [hb])]
    simp [hy]
  · rw [if_neg e, bytesOf_other e, List.append_nil]; exact h.is g
theorem FOk.cut {m : YM} {r0 t : DR} (h : FOk m (r0 ++ t)) {f : Int} (ht : ∀ r ∈ t, r.1 = f) :
    (bytesOf f r0 = [] → FOk (mdel f m) r0) ∧ (∀ y, y.bs = bytesOf f r0 → bytesOf f r0 ≠ [] → FOk (mset f y m) r0) := by
  have ho : ∀ g, g ≠ f → bytesOf g (r0 ++ t) = bytesOf g r0 := fun g hg => by rw [bytesOf_append, bytesOf_none ht hg, List.append_nil]
  constructor
  · intro hb
    refine ⟨nodup_mdel h.nd, fun g => ?_⟩
    rw [mlook_mdel]
    by_cases e : g = f
    · subst e; rw [if_pos rfl, if_pos hb]; rfl
    · rw [if_neg e, ← ho g e]; exact h.is g
  · intro y hy hb
    refine ⟨nodup_mset h.nd, fun g => ?_⟩
    rw [mlook_mset]
    by_cases e : g = f
    · subst e; rw [if_pos rfl, if_neg hb, ← hy]; rfl
    · rw [if_neg e, ← ho g e]; exact h.is g
theorem FOk.delete {m : YM} {rows : DR} (h : FOk m rows) (f : Int) : FOk (mdel f m) (rows.filter fun r => decide (r.1 ≠ f)) := by
  refine ⟨nodup_mdel h.nd, fun g => ?_⟩
  rw [mlook_mdel, bytesOf_filter]
  by_cases e : g = f
  · rw [if_pos e, if_pos e, if_pos rfl]; rfl
  · rw [if_neg e, if_neg e]; exact h.is g

/-! ### how many bytes -/
theorem sum_bytes : ∀ (rows : DR) (ks : List Int), ks.Nodup → (∀ r ∈ rows, r.1 ∈ ks) → (ks.map fun k => (bytesOf k rows).length).sum = rows.length
  | [], ks, _, _ => by
    have : ∀ l : List Int, (l.map fun k => (bytesOf k []).length).sum = 0 := by
      intro l
      induction l with
      | nil => rfl
      | cons k r ih => rw [List.map_cons, List.sum_cons, ih]; rfl
    exact this ks
  | x :: rows, ks, hn, h => by
    have ih := sum_bytes rows ks hn (fun r hr => h r (List.mem_cons_of_mem _ hr))
    have hx := h x List.mem_cons_self
    have key : ∀ l : List Int, l.Nodup → (l.map fun k => (bytesOf k (x :: rows)).length).sum = (l.map fun k => (bytesOf k rows).length).sum + (if x.1 ∈ l then 1 else 0) := by
      intro l
      induction l with
      | nil => intro _; rfl
      | cons k r ih2 =>
        intro hl
        rw [List.nodup_cons] at hl
        have i2 := ih2 hl.2
        simp only [List.map_cons, List.sum_cons]
        by_cases e : x.1 = k
        · have hnr : ¬ x.1 ∈ r := by rw [e]; exact hl.1
          rw [if_neg hnr] at i2
          have : (bytesOf k (x :: rows)).length = (bytesOf k rows).length + 1 := by simp [bytesOf, List.filter_cons, e]
          rw [this, i2, if_pos (by rw [e]; exact List.mem_cons_self)]
          omega
        · have : (bytesOf k (x :: rows)).length = (bytesOf k rows).length := by simp [bytesOf, List.filter_cons, e]
          rw [this, i2]
          by_cases e2 : x.1 ∈ r
          · rw [if_pos e2, if_pos (List.mem_cons_of_mem _ e2)]; omega
          · rw [if_neg e2, if_neg (by simp [e, e2])]; omega
    rw [key ks hn, ih, if_pos hx, List.length_cons]
theorem FOk.size {m : YM} {rows : DR} (h : FOk m rows) : (m.map fun p => p.2.bs.length).sum = rows.length := by
  have h2 := sum_bytes rows (keysOf m) h.nd (fun r hr => h.keys.2 (List.mem_map.2 ⟨r, hr, rfl⟩))
  rw [← h2]
  unfold keysOf
  rw [List.map_map]
  congr 1
  apply List.map_congr_left
  intro p hp
  have := h.some (mlook_of_mem h.nd (show (p.1, p.2) ∈ m from hp))
  simp only [Function.comp_def]
  rw [this.1]
theorem FOk.le {m : YM} {rows : DR} (h : FOk m rows) : m.length ≤ rows.length := by
  rw [← h.size]
  have : ∀ l : YM, (∀ p ∈ l, p.2.bs ≠ []) → l.length ≤ (l.map fun p => p.2.bs.length).sum := by
    intro l
    induction l with
    | nil => intro _; simp
    | cons p r ih =>
      intro hl
      have h1 := ih fun q hq => hl q (List.mem_cons_of_mem _ hq)
      have h2 := List.length_pos_iff.2 (hl p List.mem_cons_self)
      simp only [List.length_cons, List.map_cons, List.sum_cons]; omega
  exact this m fun p hp => (h.some (mlook_of_mem h.nd (show (p.1, p.2) ∈ m from hp))).2

/-! ### the files -/
def dedupI : List Int → List Int
  | [] => []
  | a :: r => if a ∈ r then dedupI r else a :: dedupI r
theorem mem_dedupI {x : Int} : ∀ {l : List Int}, x ∈ dedupI l ↔ x ∈ l
  | [] => Iff.rfl
  | a :: r => by
    have ih := mem_dedupI (x := x) (l := r)
    unfold dedupI
    split
    · rename_i h
      rw [ih, List.mem_cons]
      exact ⟨Or.inr, fun hh => hh.elim (fun e => by rw [e]; exact h) id⟩
    · rw [List.mem_cons, List.mem_cons, ih]
theorem nodup_dedupI : ∀ {l : List Int}, (dedupI l).Nodup
  | [] => List.nodup_nil
  | a :: r => by
    unfold dedupI
    split
    · exact nodup_dedupI
    · rename_i h
      rw [List.nodup_cons]
      exact ⟨fun hm => h (mem_dedupI.1 hm), nodup_dedupI⟩
def filesOf (rows : DR) : List Int := sortI (dedupI (rows.map Prod.fst))
/-- Two rising lists of the like numbers are one. -/
theorem rising_eq : ∀ {l r : List Int}, l.Pairwise (· < ·) → r.Pairwise (· < ·) → (∀ x, x ∈ l ↔ x ∈ r) → l = r
  | [], [], _, _, _ => rfl
  | [], b :: r, _, _, h => absurd ((h b).2 List.mem_cons_self) (by simp)
  | a :: l, [], _, _, h => absurd ((h a).1 List.mem_cons_self) (by simp)
  | a :: l, b :: r, hl, hr, h => by
    rw [List.pairwise_cons] at hl hr
    have e : a = b := by
      rcases List.mem_cons.1 ((h a).1 List.mem_cons_self) with e | h1
      · exact e
      · rcases List.mem_cons.1 ((h b).2 List.mem_cons_self) with e | h2
        · exact e.symm
        · have := hl.1 _ h2
          have := hr.1 _ h1
          omega
    subst e
    rw [rising_eq hl.2 hr.2 fun x => ?_]
    constructor
    · intro hx
      rcases List.mem_cons.1 ((h x).1 (List.mem_cons_of_mem _ hx)) with e | h2
      · have := hl.1 _ hx; omega
      · exact h2
    · intro hx
      rcases List.mem_cons.1 ((h x).2 (List.mem_cons_of_mem _ hx)) with e | h2
      · have := hr.1 _ hx; omega
      · exact h2
theorem sortI_rising {l : List Int} (h : l.Nodup) : (sortI l).Pairwise (· < ·) := by
  have h1 := sortI_sorted l
  have h2 : (sortI l).Nodup := (sortI_perm_self l).nodup_iff.2 h
  exact (h1.and h2).imp fun hh => by have := hh.1; have := hh.2; omega
theorem filesOf_rising (rows : DR) : (filesOf rows).Pairwise (· < ·) := sortI_rising nodup_dedupI
theorem mem_filesOf {rows : DR} {f : Int} : f ∈ filesOf rows ↔ f ∈ rows.map Prod.fst := by
  unfold filesOf; rw [(sortI_perm_self _).mem_iff, mem_dedupI]
theorem FOk.files {m : YM} {rows : DR} (h : FOk m rows) : sortI (keysOf m) = filesOf rows :=
  rising_eq (sortI_rising h.nd) (filesOf_rising rows) fun x => by rw [(sortI_perm_self _).mem_iff, mem_filesOf]; exact h.keys

/-! ### what is pending -/
structure Pc where
  file : Int
  size : Int
abbrev encPc (p : Pc) : List Value := [.int .i64 p.file, .int .i64 p.size]
theorem encPc_len (p : Pc) : (encPc p).length = 2 := rfl
def expand (pend : List Pc) : List Int := pend.flatMap fun p => List.replicate p.size.toNat p.file
theorem expand_append (a b : List Pc) : expand (a ++ b) = expand a ++ expand b := by simp [expand]
theorem expand_one (p : Pc) : expand [p] = List.replicate p.size.toNat p.file := by simp [expand]
def sizes (pend : List Pc) : Int := (pend.map Pc.size).sum
theorem expand_length : ∀ {pend : List Pc}, (∀ p ∈ pend, 1 ≤ p.size) → ((expand pend).length : Int) = sizes pend
  | [], _ => rfl
  | p :: r, h => by
    have ih := expand_length (pend := r) fun q hq => h q (List.mem_cons_of_mem _ hq)
    have hp := h p List.mem_cons_self
    simp only [expand, sizes, List.flatMap_cons, List.length_append, List.length_replicate, List.map_cons, List.sum_cons] at ih ⊢
    omega
theorem expand_le : ∀ {pend : List Pc}, (∀ p ∈ pend, 1 ≤ p.size) → pend.length ≤ (expand pend).length
  | [], _ => Nat.le_refl _
  | p :: r, h => by
    have ih := expand_le (pend := r) fun q hq => h q (List.mem_cons_of_mem _ hq)
    have hp := h p List.mem_cons_self
    simp only [expand, List.flatMap_cons, List.length_append, List.length_replicate, List.length_cons] at ih ⊢
    omega

structure DOk (m : YM) (pend : List Pc) (rows : DR) (syn : Nat) : Prop where
  f : FOk m rows
  sle : syn ≤ rows.length
  p : expand pend = (rows.drop syn).map Prod.fst
  pos : ∀ q ∈ pend, 1 ≤ q.size
  keys : ∀ r ∈ rows, 0 ≤ r.1 ∧ r.1 ≤ 2147483647
theorem DOk.new : DOk [] [] [] 0 := ⟨FOk.new, Nat.le_refl _, rfl, fun _ h => (by cases h), fun _ h => (by cases h)⟩
theorem DOk.len {m : YM} {pend : List Pc} {rows : DR} {syn : Nat} (h : DOk m pend rows syn) : sizes pend = (rows.length : Int) - syn := by
  have h1 := expand_length h.pos
  rw [h.p, List.length_map, List.length_drop] at h1
  have := h.sle
  omega
theorem DOk.ple {m : YM} {pend : List Pc} {rows : DR} {syn : Nat} (h : DOk m pend rows syn) : pend.length ≤ rows.length := by
  have h1 := expand_le h.pos
  rw [h.p, List.length_map, List.length_drop] at h1
  omega
end Go.Nm
