/-
  The engine, part 0: verification conditions for the model's code, over heaps. Definitions alone.
-/
import Derived.WalkKit
import Derived.RangeFuncRecord
namespace Go.Nm
open Go

abbrev Heap := Array Obj

/-- The cell at offset 'off' of block 'b'. -/
def cellAt (H : Heap) (b off : Nat) : Option Value :=
  match H[b]? with
  | some (.cells c _ _) => c[off]?
  | _ => none

/-- May the cell not be written? -/
def frozenAt (H : Heap) (b off : Nat) : Bool :=
  match H[b]? with
  | some (.cells _ _ (lo, hi)) => lo ≤ off && off < hi
  | _ => false

def setAt (H : Heap) (b off : Nat) (v : Value) : Heap :=
  H.modify b fun
    | .cells c elem frozen => .cells (c.setIfInBounds off v) elem frozen
    | o => o

/-- What of a world is no heap stays, but for the count of draws. -/
structure Rest (w w' : World) : Prop where
  os : w'.os = w.os
  tape : w'.tape = w.tape
  output : w'.output = w.output

/-! ### shapes -/
inductive Leaf where
  | int (k : IntKind) | bool | str | ptr | slice | map | raw | fnv | adr
inductive Sh where
  | one (l : Leaf)
  | agg (ls : List Leaf)

def Leaf.all : Leaf → (Value → Prop) → Prop
  | .int k, K => ∀ n : Int, K (.int k n)
  | .bool, K => ∀ b : Bool, K (.bool b)
  | .str, K => ∀ s : ByteArray, K (.string s)
  | .ptr, K => ∀ a : Option Addr, K (.pointer a)
  | .slice, K => ∀ (a : Option Addr) (n c : Nat), K (.slice a n c)
  | .map, K => ∀ r : Option Nat, K (.map r)
  | .raw, K => ∀ v : Value, K v
  | .adr, K => ∀ b o : Nat, K (.pointer (some ⟨b, o, none⟩))
  | .fnv, K => ∀ (f : FuncId) (cap : List Value), K (.func (.func f) ⟨[]⟩ ⟨cap⟩)
def Leaf.ex : Leaf → (Value → Prop) → Prop
  | .int k, K => ∃ n : Int, K (.int k n)
  | .bool, K => ∃ b : Bool, K (.bool b)
  | .str, K => ∃ s : ByteArray, K (.string s)
  | .ptr, K => ∃ a : Option Addr, K (.pointer a)
  | .slice, K => ∃ (a : Option Addr) (n c : Nat), K (.slice a n c)
  | .map, K => ∃ r : Option Nat, K (.map r)
  | .raw, K => ∃ v : Value, K v
  | .adr, K => ∃ b o : Nat, K (.pointer (some ⟨b, o, none⟩))
  | .fnv, K => ∃ (f : FuncId) (cap : List Value), K (.func (.func f) ⟨[]⟩ ⟨cap⟩)
def allLs : List Leaf → (List Value → Prop) → Prop
  | [], K => K []
  | l :: r, K => l.all fun v => allLs r fun vs => K (v :: vs)
def exLs : List Leaf → (List Value → Prop) → Prop
  | [], K => K []
  | l :: r, K => l.ex fun v => exLs r fun vs => K (v :: vs)
def Sh.all : Sh → (Value → Prop) → Prop
  | .one l, K => l.all K
  | .agg ls, K => allLs ls fun vs => K (.agg ⟨vs⟩)
def Sh.ex : Sh → (Value → Prop) → Prop
  | .one l, K => l.ex K
  | .agg ls, K => exLs ls fun vs => K (.agg ⟨vs⟩)
def exShs : List Sh → (List Value → Prop) → Prop
  | [], K => K []
  | s :: r, K => s.ex fun v => exShs r fun vs => K (v :: vs)
/-- A call's result. -/
def exRes : List Sh → (Value → Prop) → Prop
  | [], K => K (.tuple #[])
  | [s], K => s.ex K
  | s :: t :: r, K => exShs (s :: t :: r) fun vs => K (.tuple ⟨vs⟩)

def Leaf.fn : Leaf → Type → Type
  | .int _, T => Int → T
  | .bool, T => Bool → T
  | .str, T => ByteArray → T
  | .ptr, T => Option Addr → T
  | .slice, T => Option Addr → Nat → Nat → T
  | .map, T => Option Nat → T
  | .raw, T => Value → T
  | .fnv, T => FuncId → List Value → T
  | .adr, T => Nat → Nat → T
def fnLs : List Leaf → Type → Type
  | [], T => T
  | l :: r, T => l.fn (fnLs r T)
def Sh.fn : Sh → Type → Type
  | .one l, T => l.fn T
  | .agg ls, T => fnLs ls T
/-- Slots that live, with their shapes. -/
abbrev Live := List (Nat × Sh)
def JT (T : Type) : Live → Type
  | [] => T
  | (_, s) :: r => s.fn (JT T r)

def Leaf.app : (l : Leaf) → {T : Type} → l.fn T → Value → Option T
  | .int k, _, f, .int k' n => if k = k' then some (f n) else none
  | .bool, _, f, .bool b => some (f b)
  | .str, _, f, .string s => some (f s)
  | .ptr, _, f, .pointer a => some (f a)
  | .slice, _, f, .slice a n c => some (f a n c)
  | .map, _, f, .map r => some (f r)
  | .raw, _, f, v => some (f v)
  | .fnv, _, f, .func (.func g) ⟨[]⟩ ⟨cap⟩ => some (f g cap)
  | .adr, _, f, .pointer (some ⟨b, o, none⟩) => some (f b o)
  | _, _, _, _ => none
def appLs : (ls : List Leaf) → {T : Type} → fnLs ls T → List Value → Option T
  | [], _, f, [] => some f
  | l :: r, _, f, v :: vs => match l.app (T := fnLs r _) f v with | some g => appLs r g vs | none => none
  | _, _, _, _ => none
def Sh.app : (s : Sh) → {T : Type} → s.fn T → Value → Option T
  | .one l, _, f, v => l.app f v
  | .agg ls, _, f, .agg cs => appLs ls f cs.toList
  | .agg _, _, _, _ => none

/-! ### frames -/
/-- A slot: its value; its value where operation j has yielded 'b' ('undef' else); nothing known. -/
inductive SV where
  | p (v : Value)
  | g (j : Nat) (b : Bool) (v : Value)
  | x
abbrev Fr := List SV

def lget {α : Type} : List α → Nat → Option α
  | [], _ => none
  | a :: _, 0 => some a
  | _ :: r, n + 1 => lget r n
def lset {α : Type} : List α → Nat → α → List α
  | [], _, _ => []
  | _ :: r, 0, x => x :: r
  | a :: r, n + 1, x => a :: lset r n x

def Fr.put (fr : Fr) (d : Option Tmp) (s : SV) : Fr := match d with | some t => lset fr t s | none => fr
def kill (ts : List Nat) (fr : Fr) : Fr := ts.foldl (fun f t => lset f t .x) fr
def endReg (fr : Fr) : Fr := fr.map fun | .g _ _ _ => .x | s => s

def getP (fr : Fr) (t : Nat) : Option Value := match lget fr t with | some (.p v) => some v | _ => none

def appJ : (L : Live) → {T : Type} → JT T L → Fr → Option T
  | [], _, j, _ => some j
  | (t, s) :: r, T, j, fr => match getP fr t with
    | some v => match s.app (T := JT T r) j v with
      | some j' => appJ r j' fr
      | none => none
    | none => none
/-- A predicate over live slots and a heap, asked of a frame. -/
def holdsJ (L : Live) (J : JT (Heap → Prop) L) (fr : Fr) (H : Heap) : Prop := match appJ L J fr with | some p => p H | none => False
def allJ : Live → Fr → (Fr → Prop) → Prop
  | [], fr, K => K fr
  | (t, s) :: r, fr, K => s.all fun v => allJ r (lset fr t (.p v)) K

/-! ### what single operations do -/
/-- A run that looks at no world. -/
def PureRun (P : Program) (s : Sem Value) (v : Value) : Prop := ∀ w, s.run P w = .ok v w
/-- '==', '!=' and their kin, as the model has them. -/
def EqRun (P : Program) (op : BinOp) (t : TypeId) (x y : Value) (b : Bool) : Prop := ∀ ox oy w, (do eqGuard op t ox oy x y; binOp op t x y : Sem Value).run P w = .ok (.bool b) w
/-- A run that reads the heap alone, and leaves the world. -/
def ReadRun (P : Program) (s : Sem Value) (H : Heap) (v : Value) : Prop := ∀ w, w.heap = H → s.run P w = .ok v w
/-- A run that may write. -/
def RunW {α : Type} (P : Program) (s : Sem α) (H : Heap) (K : α → Heap → Prop) : Prop :=
  ∀ w, w.heap = H → ∃ a w', s.run P w = .ok a w' ∧ Rest w w' ∧ K a w'.heap
/-- What a call of a Go function must come to. -/
def Fin (w : World) (K : Value → Heap → Prop) : Ending → World → Prop
  | .returned v, w' => Rest w w' ∧ K v w'.heap
  | .panicked _, _ => False
  | .outgrown, _ => False
def CallF (P : Program) (f : FuncId) (args : Array Value) (H : Heap) (K : Value → Heap → Prop) : Prop :=
  ∀ w, w.heap = H → Calls P f args w (Fin w K)
/-- A call that leaves the heap. -/
def CallQ (P : Program) (f : FuncId) (args : Array Value) (H : Heap) (v : Value) : Prop := CallF P f args H fun v' H' => v' = v ∧ H' = H
/-- What a call of yield (of loop l) must come to. -/
def YieldF (P : Program) (l : Nat) (vs : List Value) (H : Heap) (K : Value → Heap → Prop) : Prop :=
  ∀ w, w.heap = H → ∃ fn tmps assign body, (Instr.yield l ⟨vs⟩).run P w = .ok (.round l fn tmps assign body) w ∧ RoundIn Fence.wide 0 P l fn tmps assign body w (Fin w K)
/-- A function that has a body (and is not the one that the model answers itself). -/
def Bodied (P : Program) (f : FuncId) : Prop := ∃ fn, P.funcs[f]? = some fn ∧ fn.body.isNone = false ∧ (fn.name == "runtime.NumGoroutine") = false

structure Ctx where
  P : Program
  /-- The functions that are called by 'CallQ'. -/
  quiet : List FuncId
  /-- The functions that are known to have a body. -/
  calls : List FuncId
  /-- What a step of a range over a map yields, by its slot. -/
  nexts : List (Nat × Sh × Sh) := []
def Ctx.nx (X : Ctx) (l : List (Nat × Sh × Sh)) : Ctx := { X with nexts := l }
def nextOf : List (Nat × Sh × Sh) → Option Tmp → Option (Sh × Sh)
  | _, none => none
  | [], some _ => none
  | (t, k, x) :: r, some d => match Nat.beq t d with | true => some (k, x) | false => nextOf r (some d)

inductive Kind where
  | P | R | W
  deriving DecidableEq

def memN (n : Nat) : List Nat → Bool
  | [] => false
  | m :: r => Nat.beq n m || memN n r

/-- The type of a slice's, an array's .. element, a shape of a type. -/
def leafOf : TypeDesc → Option Leaf
  | .bool => some .bool
  | .int k => some (.int k)
  | .string => some .str
  | .pointer _ => some .ptr
  | .slice _ => some .slice
  | .map _ _ => some .map
  | .func _ _ _ => some .fnv
  | .interface _ => some .raw
  | _ => none
def leavesOf (P : Program) : Nat → TypeId → Option (List Leaf)
  | 0, _ => none
  | n + 1, t => match P.underlying t with
    | some (.struct fs) => fs.toList.foldr (fun f acc => match leavesOf P n f.type, acc with | some a, some b => some (a ++ b) | _, _ => none) (some [])
    | some (.array k e) => match leavesOf P n e with | some a => some ((List.replicate k a).flatten) | none => none
    | some d => match leafOf d with | some l => some [l] | none => none
    | none => none
def aggT (P : Program) (t : TypeId) : Bool := match P.underlying t with | some (.struct _) | some (.array _ _) => true | _ => false
def shapeOf (P : Program) (t : TypeId) : Option Sh :=
  match aggT P t, leavesOf P 9 t with
  | true, some ls => some (.agg ls)
  | false, some [l] => some (.one l)
  | _, _ => none

def exT (P : Program) (t : TypeId) (K : Value → Prop) : Prop := match shapeOf P t with | some s => s.ex K | none => False

def exAggT (P : Program) (t : TypeId) (K : List Value → Prop) : Prop := match leavesOf P 9 t with | some ls => exLs ls K | none => False

/-- The cells of a value from an offset on. -/
def cellsAre (H : Heap) (b : Nat) : Nat → List Value → Prop
  | _, [] => True
  | o, [v] => cellAt H b o = some v
  | o, v :: r => cellAt H b o = some v ∧ cellsAre H b (o + 1) r

/-- What a test's guard gives ('none': it stands free). -/
def gt : Option Prop → Prop → Prop
  | none, p => p
  | some c, p => c → p

def withV {α : Type} (o : Option α) (K : α → Prop) : Prop := match o with | some v => K v | none => False

def bitsV (op : BinOp) (k : IntKind) (x y : Int) : Int :=
  match op with
  | .and => k.wrap (BitVec.ofInt k.bits x &&& BitVec.ofInt k.bits y).toNat
  | .or => k.wrap (BitVec.ofInt k.bits x ||| BitVec.ofInt k.bits y).toNat
  | .xor => k.wrap (BitVec.ofInt k.bits x ^^^ BitVec.ofInt k.bits y).toNat
  | _ => k.wrap (BitVec.ofInt k.bits x &&& ~~~BitVec.ofInt k.bits y).toNat

def binInt (op : BinOp) (k : IntKind) (x y : Int) (c : Option Prop) (K : Value → Prop) : Prop :=
  match op with
  | .add => K (.int k (k.wrap (x + y)))
  | .sub => K (.int k (k.wrap (x - y)))
  | .mul => K (.int k (k.wrap (x * y)))
  | .quo => gt c (y ≠ 0) ∧ K (.int k (k.wrap (x.tdiv y)))
  | .rem => gt c (y ≠ 0) ∧ K (.int k (x.tmod y))
  | .and => K (.int k (bitsV .and k x y))
  | .or => K (.int k (bitsV .or k x y))
  | .xor => K (.int k (bitsV .xor k x y))
  | .andNot => K (.int k (bitsV .andNot k x y))
  | .eql => K (.bool (decide (x = y)))
  | .neq => K (.bool (!decide (x = y)))
  | .lss => K (.bool (decide (x < y)))
  | .leq => K (.bool (decide (x ≤ y)))
  | .gtr => K (.bool (decide (y < x)))
  | .geq => K (.bool (decide (y ≤ x)))
  | .shl => gt c (0 ≤ y) ∧ K (.int k (k.wrap (x * 2 ^ (min y.toNat k.bits))))
  | .shr => gt c (0 ≤ y) ∧ K (.int k (x.fdiv (2 ^ (min y.toNat k.bits))))

def binStr (op : BinOp) (x y : ByteArray) (c : Option Prop) (K : Value → Prop) : Prop :=
  match op with
  | .add => gt c (((x.size + y.size : Nat) : Int) ≤ IntKind.i64.max) ∧ K (.string (x ++ y))
  | .eql => K (.bool (x.toList == y.toList))
  | .neq => K (.bool (!(x.toList == y.toList)))
  | .lss => K (.bool (Op.bytesLess x.toList y.toList))
  | .leq => K (.bool (Op.bytesLess x.toList y.toList || x.toList == y.toList))
  | .gtr => K (.bool (!(Op.bytesLess x.toList y.toList || x.toList == y.toList)))
  | .geq => K (.bool (!Op.bytesLess x.toList y.toList))
  | _ => False

/-- '==' where one side is Go's nil, or both are bools. -/
def eqNil (d : Option TypeDesc) (x y : Value) : Option Bool :=
  match d, x, y with
  | some .bool, .bool a, .bool b => some (a == b)
  | some (.pointer _), .pointer a, .pointer none => some a.isNone
  | some (.slice _), .slice a _ _, .slice none _ _ => some a.isNone
  | some (.map _ _), .map a, .map none => some a.isNone
  | some (.func _ _ _), .func _ _ _, .nilFunc => some false
  | some (.func _ _ _), .nilFunc, .nilFunc => some true
  | _, _, _ => none

def binP (P : Program) (op : BinOp) (t : TypeId) (x y : Value) (c : Option Prop) (K : Value → Prop) : Prop :=
  match x, y with
  | .int k a, .int k' b => if k = k' then binInt op k a b c K else (match op with
    | .shl => gt c (0 ≤ b) ∧ K (.int k (k.wrap (a * 2 ^ (min b.toNat k.bits))))
    | .shr => gt c (0 ≤ b) ∧ K (.int k (a.fdiv (2 ^ (min b.toNat k.bits))))
    | _ => False)
  | .string a, .string b => binStr op a b c K
  | x, y => match op, eqNil (P.underlying t) x y with
    | .eql, some b => K (.bool b)
    | .neq, some b => K (.bool !b)
    | op, none => ∃ b : Bool, gt c (EqRun P op t x y b) ∧ K (.bool b)
    | _, _ => False

def unP (op : UnOp) (x : Value) (K : Value → Prop) : Prop :=
  match op, x with
  | .neg, .int k n => K (.int k (k.wrap (0 - n)))
  | .xor, .int k n => K (.int k (bitsV .xor k (if k.signed then -1 else k.max) n))
  | .not, .bool b => K (.bool !b)
  | _, _ => False

def pickV (c : Bool) (a b : Value) : Value :=
  match a, b with
  | .bool x, .bool y => .bool (cond c x y)
  | a, b => cond c a b

/-- The place of element n, where an element has so many cells. -/
def idxOff (o : Nat) (n : Int) : Nat → Nat
  | 1 => o + n.toNat
  | s => o + n.toNat * s
theorem idxOff_eq (o : Nat) (n : Int) (s : Nat) : idxOff o n s = o + n.toNat * s := by unfold idxOff; split <;> simp

/-- A type of some cells. -/
def sized (P : Program) (t : TypeId) (q : Prop) : Prop := match P.cellsOf t with | 0 => False | _ + 1 => q

/-- The beginning of 'x[lo:..]' in memory. -/
def slB (a : Option Addr) (l m size : Nat) : Option Addr := if m = l then a else a.map (·.add (l * size))

def sliceBd (x : Value) (K : Int → Prop) : Prop := match x with | .int _ n => K n | _ => False

def sliceP (P : Program) (t : TypeId) (x : Value) (lo hi : Option Value) (c : Option Prop) (K : Value → Prop) : Prop :=
  match P.underlying t, x with
  | some .string, .string s =>
    let go (l h : Int) : Prop := gt c (0 ≤ l ∧ l ≤ h ∧ h ≤ (s.size : Int)) ∧ K (.string (s.extract l.toNat h.toNat))
    match lo, hi with
    | some l, some h => sliceBd l fun l => sliceBd h fun h => go l h
    | some l, none => sliceBd l fun l => go l s.size
    | none, some h => sliceBd h fun h => go 0 h
    | none, none => go 0 s.size
  | some (.slice e), .slice a len cap =>
    let go (l h : Int) : Prop := gt c (0 ≤ l ∧ l ≤ h ∧ h ≤ (cap : Int)) ∧ K (.slice (slB a l.toNat cap (P.cellsOf e)) (h.toNat - l.toNat) (cap - l.toNat))
    sized P e <| match lo, hi with
    | some l, some h => sliceBd l fun l => sliceBd h fun h => go l h
    | some l, none => sliceBd l fun l => go l len
    | none, some h => sliceBd h fun h => go 0 h
    | none, none => go 0 len
  | some (.array n e), .pointer (some a) =>
    let go (l h : Int) : Prop := gt c (0 ≤ l ∧ l ≤ h ∧ h ≤ (n : Int)) ∧ K (.slice (slB (some a) l.toNat n (P.cellsOf e)) (h.toNat - l.toNat) (n - l.toNat))
    sized P e <| match lo, hi with
    | some l, some h => sliceBd l fun l => sliceBd h fun h => go l h
    | some l, none => sliceBd l fun l => go l n
    | none, some h => sliceBd h fun h => go 0 h
    | none, none => go 0 n
  | _, _ => False

def bAt (s : ByteArray) (i : Nat) : Int := (((s.data[i]?).getD 0).toNat : Int)

def indexP (P : Program) (t : TypeId) (x i : Value) (c : Option Prop) (K : Value → Prop) : Prop :=
  match P.underlying t, x, i with
  | some .string, .string s, .int _ n => gt c (0 ≤ n ∧ n < (s.size : Int)) ∧ K (.int .u8 (bAt s n.toNat))
  | some (.array _ e), x, i => match shapeOf P e with
    | some s => s.ex fun v => gt c (PureRun P (Instr.index t x i) v) ∧ K v
    | none => False
  | _, _, _ => False

def indexAddrP (P : Program) (t : TypeId) (x i : Value) (c : Option Prop) (K : Value → Prop) : Prop :=
  match P.underlying t, x, i with
  | some (.slice e), .slice a len _, .int _ n => sized P e <| gt c (0 ≤ n ∧ n < (len : Int)) ∧ ∃ b o : Nat, gt c (a = some ⟨b, o, none⟩) ∧ K (.pointer (some ⟨b, idxOff o n (P.cellsOf e), none⟩))
  | some (.array len e), .pointer (some ⟨b, o, none⟩), .int _ n => sized P e <| gt c (0 ≤ n ∧ n < (len : Int)) ∧ K (.pointer (some ⟨b, idxOff o n (P.cellsOf e), none⟩))
  | _, _, _ => False

def fieldAddrP (P : Program) (t : TypeId) (x : Value) (f : Nat) (K : Value → Prop) : Prop :=
  match P.underlying t, x with
  | some (.struct fs), .pointer (some ⟨b, o, none⟩) => match lget fs.toList f with
    | some fd => sized P fd.type <| K (.pointer (some ⟨b, o + fd.offset, none⟩))
    | none => False
  | _, _ => False

def fieldP (P : Program) (t : TypeId) (x : Value) (f : Nat) (c : Option Prop) (K : Value → Prop) : Prop :=
  match P.underlying t with
  | some (.struct fs) => match lget fs.toList f with
    | some fd => match shapeOf P fd.type with
      | some s => s.ex fun u => gt c (PureRun P (Instr.field t x f) u) ∧ K u
      | none => False
    | none => False
  | _ => False

def adrB : Option Addr → Nat
  | some a => a.block
  | none => 0
def adrO : Option Addr → Nat
  | some a => a.off
  | none => 0
def isA : Option Addr → Prop
  | some ⟨_, _, none⟩ => True
  | _ => False
/-- The pointer is not nil, and p. -/
def NN (a : Option Addr) (p : Prop) : Prop := match a with
  | some ⟨_, _, none⟩ => p
  | _ => False
theorem isA_iff {a : Option Addr} : isA a ↔ a = some ⟨adrB a, adrO a, none⟩ := by
  rcases a with _ | ⟨b, o, _ | s⟩ <;> simp [isA, adrB, adrO]
theorem NN_iff {a : Option Addr} {p : Prop} : NN a p ↔ a = some ⟨adrB a, adrO a, none⟩ ∧ p := by
  rcases a with _ | ⟨b, o, _ | s⟩ <;> simp [NN, adrB, adrO]

def nilCheckP (x : Value) (c : Option Prop) (K : Value → Prop) : Prop :=
  match x with
  | .pointer a => (match c with
    | none => NN a (K (.pointer (some ⟨adrB a, adrO a, none⟩)))
    | some c => (c → isA a) ∧ K (.pointer (some ⟨adrB a, adrO a, none⟩)))
  | .func (.func f) a b => K (.func (.func f) a b)
  | .func (.yield f) a b => K (.func (.yield f) a b)
  | _ => False

def zeroOf (P : Program) (t : TypeId) : Option (List Value) := match P.info? t with | some i => (match i.zero with | some v => some v.cells.toList | none => none) | none => none

def offOf (P : Program) : List Field → Nat → Option (Nat × Nat)
  | fs, i => match lget fs i with | some f => some (f.offset, P.cellsOf f.type) | none => none

def setCells : List Value → Nat → List Value → List Value
  | cs, _, [] => cs
  | cs, o, v :: r => setCells (lset cs o v) (o + 1) r
def fillL (place : Nat → Option (Nat × Nat)) : List Value → List (Nat × Value) → Option (List Value)
  | cells, [] => some cells
  | cells, (i, v) :: rest =>
    match place i with
    | none => none
    | some (off, size) => if v.cells.toList.length = size ∧ off + size ≤ cells.length then fillL place (setCells cells off v.cells.toList) rest else none

def allInfo (P : Program) : List Field → Bool
  | [] => true
  | f :: r => (P.info? f.type).isSome && allInfo P r
def buildL (P : Program) (t : TypeId) (parts : List (Nat × Value)) : Option (List Value) :=
  match zeroOf P t, P.underlying t with
  | some z, some (.struct fs) => if allInfo P fs.toList = true then fillL (offOf P fs.toList) z parts else none
  | some z, some (.array _ e) => match P.info? e with
    | some _ => fillL (fun i => some (i * P.cellsOf e, P.cellsOf e)) z parts
    | none => none
  | _, _ => none
def repL (z : List Value) : Nat → List Value
  | 0 => []
  | n + 1 => z ++ repL z n
def buildSliceL (P : Program) (e : TypeId) (len : Nat) (parts : List (Nat × Value)) : Option (List Value) :=
  match zeroOf P e with
  | some z => if z.length = P.cellsOf e then fillL (fun i => some (i * P.cellsOf e, P.cellsOf e)) (repL z len) parts else none
  | none => none

def evList (ev : Operand → Option Value) : List Operand → Option (List Value)
  | [] => some []
  | x :: r => match ev x, evList ev r with | some v, some vs => some (v :: vs) | _, _ => none
def evParts (ev : Operand → Option Value) : List (Nat × Operand) → Option (List (Nat × Value))
  | [] => some []
  | (i, x) :: r => match ev x, evParts ev r with | some v, some vs => some ((i, v) :: vs) | _, _ => none
def evOpt (ev : Operand → Option Value) : Option Operand → Option (Option Value)
  | none => some none
  | some x => match ev x with | some v => some (some v) | none => none

def convP (P : Program) (s d : TypeId) (x : Value) (K : Value → Prop) : Prop :=
  match P.underlying s, P.underlying d, x with
  | some _, some (.int k), .int _ n => K (.int k (k.wrap n))
  | some _, some .string, .string b => K (.string b)
  | _, _, _ => False

def lenP (P : Program) (t : TypeId) (x : Value) (K : Value → Prop) : Prop :=
  match P.underlying t, x with
  | some .string, .string s => K (.int .i64 s.size)
  | some (.slice _), .slice _ n _ => K (.int .i64 n)
  | some (.array n _), _ => K (.int .i64 n)
  | _, _ => False

def mmP (isMax : Bool) : List Value → (Value → Prop) → Prop
  | [.int k x, .int _ y], K => K (.int k (match isMax with | true => if y > x then y else x | false => if y < x then y else x))
  | [.int k x, .int _ y, .int _ z], K => (match isMax with
    | true => K (.int k (if z > (if y > x then y else x) then z else (if y > x then y else x)))
    | false => K (.int k (if z < (if y < x then y else x) then z else (if y < x then y else x))))
  | _, _ => False

/-- Operations that look at no world. 'pk': how a pick's operands are read. -/
def pureOp (X : Ctx) (ev : Operand → Option Value) (pk : Operand → Operand → Operand → Option (Bool × Value × Value)) (c : Option Prop) (op : Op) (K : Value → Prop) : Prop :=
  match op with
  | .move x | .assign x => withV (ev x) K
  | .pick a b d => withV (pk a b d) fun r => K (pickV r.1 r.2.1 r.2.2)
  | .nilCheck x => withV (ev x) fun v => nilCheckP v c K
  | .binOp op t x y _ => withV (ev x) fun a => withV (ev y) fun b => binP X.P op t a b c K
  | .unOp op _ x => withV (ev x) fun v => unP op v K
  | .convert s d x => withV (ev x) fun v => convP X.P s d v K
  | .fieldAddr t x f => withV (ev x) fun v => fieldAddrP X.P t v f K
  | .field t x f => withV (ev x) fun v => fieldP X.P t v f c K
  | .indexAddr t x i => withV (ev x) fun v => withV (ev i) fun n => indexAddrP X.P t v n c K
  | .index t x i => withV (ev x) fun v => withV (ev i) fun n => indexP X.P t v n c K
  | .extract t i => withV (ev t) fun v => (match v with | .tuple vs => withV (lget vs.toList i) K | _ => False)
  | .slice t x lo hi mx => (match mx with
    | none => withV (ev x) fun v => withV (evOpt ev lo) fun l => withV (evOpt ev hi) fun h => sliceP X.P t v l h c K
    | some _ => False)
  | .build t ps => withV (evParts ev ps.toList) fun vs => withV (buildL X.P t vs) fun l => K (.agg ⟨l⟩)
  | .makeInterface t x => withV (ev x) fun v => (match X.P.underlying t with | some (.interface _) => False | some _ => K (.iface t v) | none => False)
  | .makeFunc fn a b => withV (evList ev a.toList) fun va => withV (evList ev b.toList) fun vb => K (.func fn ⟨va⟩ ⟨vb⟩)
  | .call cl => (match cl.callee, cl.argTypes.toList with
    | .builtin .len, t :: _ => withV (evList ev cl.args.toList) fun vs => (match vs with | v :: _ => lenP X.P t v K | [] => False)
    | .builtin .max, _ => withV (evList ev cl.args.toList) fun vs => mmP true vs K
    | .builtin .min, _ => withV (evList ev cl.args.toList) fun vs => mmP false vs K
    | _, _ => False)
  | _ => False

/-- The result's shapes of a call whose type is 't'. -/
def shapesL (P : Program) : List TypeId → Option (List Sh)
  | [] => some []
  | t :: r => match shapeOf P t, shapesL P r with | some s, some ss => some (s :: ss) | _, _ => none
def resShapes (P : Program) (t : TypeId) : Option (List Sh) :=
  match P.underlying t with
  | some (.tuple ts) => shapesL P ts.toList
  | _ => match shapeOf P t with | some s => some [s] | none => none

/-- Operations that read the heap: the value, and the fact by which it is the value (in whatever heap that fact holds). -/
def readOp (X : Ctx) (ev : Operand → Option Value) (c : Option Prop) (o : Oper) (H : Heap) (K : Value → (Heap → Prop) → Prop) : Prop :=
  match o.op with
  | .load t x => withV (ev x) fun v => (match v with
    | .pointer (some ⟨b, off, none⟩) => (match aggT X.P t with
      | true => exAggT X.P t fun us => (if us.length = X.P.cellsOf t then gt c (cellsAre H b off us) ∧ K (.agg ⟨us⟩) fun H' => gt c (cellsAre H' b off us) else False)
      | false => exT X.P t fun u => gt c (cellAt H b off = some u) ∧ K u fun H' => gt c (cellAt H' b off = some u))
    | _ => False)
  | .lookup t x i ok => withV (ev x) fun m => withV (ev i) fun k => (match X.P.underlying t with
    | some (.map _ e) => exT X.P e fun u => (match ok with
      | true => ∃ there : Bool, gt c (ReadRun X.P (Instr.lookup t m k true) H (.tuple #[u, .bool there])) ∧ K (.tuple #[u, .bool there]) fun H' => gt c (ReadRun X.P (Instr.lookup t m k true) H' (.tuple #[u, .bool there]))
      | false => gt c (ReadRun X.P (Instr.lookup t m k false) H u) ∧ K u fun H' => gt c (ReadRun X.P (Instr.lookup t m k false) H' u))
    | _ => False)
  | .convert s d x => withV (ev x) fun v => (match X.P.underlying d with
    | some .string => ∃ b : ByteArray, gt c (ReadRun X.P (convert s d v) H (.string b)) ∧ K (.string b) fun H' => gt c (ReadRun X.P (convert s d v) H' (.string b))
    | _ => False)
  | .entry it => withV (ev it) fun v => (match nextOf X.nexts o.dst with
    | some (ks, xs) => ks.ex fun k => xs.ex fun x => gt c (ReadRun X.P (Instr.entry v) H (.tuple #[k, x])) ∧ K (.tuple #[k, x]) fun H' => gt c (ReadRun X.P (Instr.entry v) H' (.tuple #[k, x]))
    | none => False)
  | .call cl => (match cl.callee with
    | .value (.func f) => if memN f X.calls = false then False else withV (evList ev cl.args.toList) fun vs => withV (resShapes X.P o.type) fun ss => exRes ss fun u => gt c (CallQ X.P f ⟨vs⟩ H u) ∧ K u fun H' => gt c (CallQ X.P f ⟨vs⟩ H' u)
    | .builtin .len => withV (evList ev cl.args.toList) fun vs => ∃ n : Int, gt c (ReadRun X.P (Builtin.len_ cl.argTypes o.type ⟨vs⟩) H (.int .i64 n)) ∧ K (.int .i64 n) fun H' => gt c (ReadRun X.P (Builtin.len_ cl.argTypes o.type ⟨vs⟩) H' (.int .i64 n))
    | _ => False)
  | _ => False

/-- Cells from an offset on may be written. -/
def canSet (H : Heap) (b : Nat) : Nat → List Value → Prop
  | _, [] => True
  | o, _ :: r => ((cellAt H b o).isSome = true ∧ frozenAt H b o = false) ∧ canSet H b (o + 1) r
def setAll (H : Heap) (b : Nat) : Nat → List Value → Heap
  | _, [] => H
  | o, v :: r => setAll (setAt H b o v) b (o + 1) r
def plainCells : List Value → Bool
  | [] => true
  | .agg _ :: _ => false
  | .tuple _ :: _ => false
  | _ :: r => plainCells r

/-- Operations that write the heap, or make memory. -/
def writeOp (X : Ctx) (ev : Operand → Option Value) (o : Oper) (H : Heap) (K : Value → Heap → Prop) : Prop :=
  match o.op with
  | .alloc t => withV (zeroOf X.P t) fun z => ∀ (b : Nat) (H' : Heap), b = H.size → H' = H.push (.cells ⟨z⟩ t) → K (.pointer (some ⟨b, 0, none⟩)) H'
  | .box t x => withV (ev x) fun v => ∀ (b : Nat) (H' : Heap), b = H.size → H' = H.push (.cells v.cells t) → K (.pointer (some ⟨b, 0, none⟩)) H'
  | .buildSlice t n ps => withV (evParts ev ps.toList) fun vs => (match X.P.underlying t with
    | some (.slice e) => withV (buildSliceL X.P e n vs) fun l => (if n * X.P.cellsOf e ≤ 16777216 then ∀ (b : Nat) (H' : Heap), b = H.size → H' = H.push (.cells ⟨l⟩ e) → K (.slice (some ⟨b, 0, none⟩) n n) H' else False)
    | _ => False)
  | .makeMap _ r => (match r with
    | none => ∀ (b : Nat) (H' : Heap), b = H.size → H' = H.push (.map #[] 0) → K (.map (some b)) H'
    | some _ => False)
  | .store t x y => withV (ev x) fun a => withV (ev y) fun v => (match a with
    | .pointer (some ⟨b, off, none⟩) =>
      sized X.P t <| if v.cells.toList.length = X.P.cellsOf t ∧ plainCells v.cells.toList = true then canSet H b off v.cells.toList ∧ ∀ H' : Heap, H' = setAll H b off v.cells.toList → K undef H' else False
    | _ => False)
  | .makeSlice t l c => withV (ev l) fun a => withV (ev c) fun b => RunW X.P (Instr.makeSlice t a b) H fun v H' => exT X.P t fun u => v = u ∧ K u H'
  | .mapUpdate t m k x | .insert t m k x => withV (ev m) fun a => withV (ev k) fun b => withV (ev x) fun v => RunW X.P (Instr.mapUpdate t a b v) H fun _ H' => K undef H'
  | .mapEntry t m k => withV (ev m) fun a => withV (ev k) fun b => RunW X.P (Instr.mapEntry t a b) H fun v H' => (match X.P.underlying t with
    | some (.map _ e) => exT X.P e fun u => ∃ n : Int, v = .tuple #[u, .int .i64 n] ∧ K (.tuple #[u, .int .i64 n]) H'
    | _ => False)
  | .entryStore t m k x => withV (ev m) fun a => withV (ev k) fun b => withV (ev x) fun v => RunW X.P (Instr.entryStore t a b v) H fun _ H' => K undef H'
  | .range t x => withV (ev x) fun v => RunW X.P (Instr.range t v) H fun u H' => ∃ r : Nat, u = .pointer (some ⟨r, 0, none⟩) ∧ K (.pointer (some ⟨r, 0, none⟩)) H'
  | .next it s => withV (ev it) fun v => RunW X.P (Instr.next v s o.type) H fun u H' => (u = .tuple #[.bool false] ∧ K (.tuple #[.bool false]) H') ∨ ∃ k x : Value, u = .tuple #[.bool true, k, x] ∧ K (.tuple #[.bool true, k, x]) H'
  | .convert s d x => withV (ev x) fun v => RunW X.P (convert s d v) H fun u H' => exT X.P d fun u' => u = u' ∧ K u' H'
  | .call cl => (match cl.callee with
    | .value (.func f) => if memN f X.calls = false then False else withV (evList ev cl.args.toList) fun vs => withV (resShapes X.P o.type) fun ss => CallF X.P f ⟨vs⟩ H fun v H' => exRes ss fun u => v = u ∧ K u H'
    | .value x => withV (ev x) fun fv => withV (evList ev cl.args.toList) fun vs => withV (resShapes X.P o.type) fun ss => (match fv with
      | .func (.func f) first cap => memN f X.calls = true ∧ CallF X.P f ⟨first.toList ++ vs ++ cap.toList⟩ H fun v H' => exRes ss fun u => v = u ∧ K u H'
      | .func (.yield l) ⟨[]⟩ ⟨[]⟩ => YieldF X.P l vs H fun v H' => exRes ss fun u => v = u ∧ K u H'
      | _ => False)
    | .builtin .append => withV (evList ev cl.args.toList) fun vs => RunW X.P (Builtin.append_ cl.argTypes o.type ⟨vs⟩) H fun v H' => ∃ (a : Option Addr) (n c : Nat), v = .slice a n c ∧ K (.slice a n c) H'
    | .builtin .copy => withV (evList ev cl.args.toList) fun vs => RunW X.P (Builtin.copy_ cl.argTypes o.type ⟨vs⟩) H fun v H' => ∃ n : Int, v = .int .i64 n ∧ K (.int .i64 n) H'
    | .builtin .delete => withV (evList ev cl.args.toList) fun vs => RunW X.P (Builtin.delete_ cl.argTypes o.type ⟨vs⟩) H fun v H' => K v H'
    | .builtin .clear => withV (evList ev cl.args.toList) fun vs => RunW X.P (Builtin.clear_ cl.argTypes o.type ⟨vs⟩) H fun v H' => K v H'
    | _ => False)
  | _ => False

def basicT (P : Program) (t : TypeId) : Bool := match P.underlying t with | some .string | some (.slice _) | some (.array _ _) => true | _ => false
def intOrStr (P : Program) (t : TypeId) : Bool := match P.underlying t with | some (.int _) | some .string => true | _ => false

/-- Which of the three an operation is. -/
def kindOf (X : Ctx) (op : Op) : Kind :=
  match op with
  | .move _ | .assign _ | .pick _ _ _ | .nilCheck _ | .binOp _ _ _ _ _ | .unOp _ _ _ | .fieldAddr _ _ _ | .field _ _ _ | .indexAddr _ _ _ | .index _ _ _ | .extract _ _ | .slice _ _ _ _ _ | .build _ _ | .makeInterface _ _ | .makeFunc _ _ _ => .P
  | .convert s d _ => match intOrStr X.P s, X.P.underlying d with
    | true, some (.int _) => .P
    | true, some .string => (match X.P.underlying s with | some .string => .P | _ => .W)
    | false, some .string => .R
    | _, _ => .W
  | .load _ _ | .lookup _ _ _ _ | .entry _ => .R
  | .call cl => match cl.callee, cl.argTypes.toList with
    | .builtin .len, t :: _ => if basicT X.P t then .P else .R
    | .builtin .max, _ | .builtin .min, _ => .P
    | .value (.func f), _ => if memN f X.quiet then .R else .W
    | _, _ => .W
  | _ => .W

end Go.Nm
