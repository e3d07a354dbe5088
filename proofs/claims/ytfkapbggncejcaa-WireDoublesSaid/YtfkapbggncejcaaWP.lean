/-
  The wire, plainly.
-/
import Derived.Test.YtfkapbggncejcaaBY
set_option linter.unusedVariables false
set_option linter.unusedSimpArgs false
namespace Go.Nm
open Go

structure Pk where
  up : Bool
  agent : Int
  sent : Int
  a : Option Addr
  c : Nat
  bytes : List Int
def Pk.z : Pk := ⟨false, 0, 0, none, 0, []⟩
abbrev encP (p : Pk) : List Value := [.bool p.up, .int .i64 p.agent, .int .i64 p.sent, .slice p.a p.bytes.length p.c]
abbrev aggP (p : Pk) : Value := .agg #[.bool p.up, .int .i64 p.agent, .int .i64 p.sent, .slice p.a p.bytes.length p.c]
abbrev Core := Bool × Int × Int × List Int
def Pk.core (p : Pk) : Core := (p.up, p.agent, p.sent, p.bytes)
/-- A packet whose bytes are kept; not too many of them. -/
def Pk.In (Q : Assn) (p : Pk) : Prop := KIn Q p.a (p.bytes.map U8) ∧ p.bytes.length ≤ 1000000
theorem Pk.In.sub {Q Q' : Assn} {p : Pk} (h : p.In Q) (hs : Sub Q Q') : p.In Q' := ⟨h.1.sub hs, h.2⟩
theorem Pk.z_in (Q : Assn) : Pk.z.In Q := ⟨KIn.nil Q _, by decide⟩

abbrev PM := List (Int × Pk)
structure WOk (Q : Assn) (most next : Int) (m : PM) : Prop where
  m1 : 1 ≤ most
  m2 : most ≤ 4096
  len : (m.length : Int) ≤ most
  keys : ∀ p ∈ m, 0 ≤ p.1 ∧ p.1 < next
  next0 : 0 ≤ next
  ins : ∀ p ∈ m, p.2.In Q
  ag : ∀ p ∈ m, 0 ≤ p.2.agent ∧ p.2.agent < 64
  nd : (keysOf m).Nodup
theorem WOk.sub {Q Q' : Assn} {most next : Int} {m : PM} (h : WOk Q most next m) (hs : Sub Q Q') : WOk Q' most next m :=
  ⟨h.m1, h.m2, h.len, h.keys, h.next0, fun p hp => (h.ins p hp).sub hs, h.ag, h.nd⟩

def badP (p : Pk) : Prop := p.agent < 0 ∨ 64 ≤ p.agent ∨ p.sent < 0 ∨ 4611686018427387903 < p.sent
/-- Two maps that hold the like at the like keys, in the like order. -/
def cores (a : PM) : List (Int × Core) := a.map fun x => (x.1, x.2.core)
def Like (a b : PM) : Prop := cores a = cores b
theorem Like.len {a b : PM} (h : Like a b) : a.length = b.length := by have := congrArg List.length h; simpa [cores] using this
theorem cores_del (n : Int) (a : PM) : cores (mdel n a) = mdel n (cores a) := by
  unfold cores mdel
  rw [List.filter_map]
  rfl
theorem cores_look (n : Int) : ∀ a : PM, mlook n (cores a) = (mlook n a).map Pk.core
  | [] => rfl
  | x :: r => by
    obtain ⟨x1, x2⟩ := x
    have ih := cores_look n r
    show mlook n ((x1, x2.core) :: cores r) = _
    simp only [mlook]
    split
    · rfl
    · exact ih
theorem Like.del {a b : PM} (h : Like a b) (n : Int) : Like (mdel n a) (mdel n b) := by
  unfold Like at *
  rw [cores_del, cores_del, h]
theorem Like.set {a b : PM} (h : Like a b) (n : Int) {p q : Pk} (hc : p.core = q.core) : Like (mset n p a) (mset n q b) := by
  have := h.del n
  unfold Like cores mset at *
  rw [List.map_cons, List.map_cons, this, hc]
theorem Like.look {a b : PM} (h : Like a b) (n : Int) : (mlook n a).map Pk.core = (mlook n b).map Pk.core := by
  rw [← cores_look, ← cores_look, h]
end Go.Nm
