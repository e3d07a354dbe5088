/-
  Lemmas for CoreOnce: part 0 of what it rests on. Conditions: none.
-/
import Derived.WalkKit
import Derived.RangeFuncRecord
import Derived.WalkSmall
import Derived.OrdersIn
import Derived.TacticsIn
import Derived.RangeFuncWrites
import Derived.Laws.AppendOwn
import Derived.MapKept
import Derived.Lib.SlKeysI
import Derived.Below
import Derived.Laws.StructEq
import Derived.ChangeKeysEq
import Derived.RecoverIn
import Derived.Maps.RangeRun
import Derived.Laws.MathBits
import Derived.Laws.MakeOwn
import Derived.ProofKit
import Derived.Carry
import Derived.OpenShut
import Derived.ChangeSame
import Derived.WideKeyEntry
import Derived.Shelf.SlIterI.Nil
import Derived.Shelf.SortM.Plain
import Derived.Shelf.SortM.SortNone
import Derived.Shelf.SlMaps.Clone
import Derived.Ground.GgzProg
import Derived.Ground.SlgmProg
import Derived.Ground.SlmcProg
import Derived.Test.YtfmkddccnjidmaaGreatDoorProg
import Derived.Shelf.SlSortCmp.NoneTotal
import Derived.Shelf.Strings.OnBuilder
import Derived.Ground.SlsfProg
import Derived.Ground.NamesProg
import Derived.KernelRfl
import Derived.Laws.BytesArg
import Derived.Laws.IdiomStrings
import Derived.Laws.Cover1
import Derived.Lib.Bytealg
set_option linter.unusedVariables false
set_option linter.unusedSimpArgs false
set_option maxRecDepth 100000
open Go.IntKind (i64 u64 i8 u8 i32 u32 i16 u16)
abbrev z8s:=@of_decide_eq_true
abbrev z8t:=@List.length_append
abbrev z8u:=@decide_eq_true_eq
abbrev z8v:=@of_decide_eq_false
abbrev z8w:=@Bool.and_eq_true
abbrev z8x:=@decide_eq_false_iff_not
abbrev z8y:=@List.length_cons
abbrev z8z:=@Int.toNat_natCast
abbrev z90:=@List.mem_map
abbrev z91:=@Nat.le_refl
abbrev z92:=@List.getElem_mem
abbrev z93:=@List.append_assoc
abbrev z94:=@Bool.or_eq_false_iff
abbrev z95:=@Nat.le_trans
abbrev z96:=@List.mem_cons
abbrev z97:=@Bool.or_eq_true
abbrev z98:=@List.mem_cons_self
abbrev z99:=@List.mem_cons_of_mem
abbrev z9a:=@Bool.not_eq_true'
abbrev z9b:=@decide_eq_true
abbrev z9c:=@List.length_map
abbrev z9d:=@List.length_take
abbrev z9e:=@Nat.zero_add
abbrev z9f:=@List.take_of_length_le
abbrev z9g:=@Int.le_refl
abbrev z9h:=@Nat.lt_or_ge
abbrev z9i:=@List.mem_of_getElem?
abbrev z9j:=@List.length_nil
abbrev z9k:=@List.map_append
abbrev z9l:=@Nat.zero_le
abbrev z9m:=@List.length_drop
abbrev z9n:=@List.map_cons
abbrev z9o:=@List.append_nil
abbrev z9p:=@Nat.add_mul
abbrev z9q:=@List.mem_singleton
abbrev z9r:=@List.map_map
abbrev z9s:=@Bool.eq_iff_iff
abbrev z9t:=@Option.map_some
abbrev z9u:=@Bool.not_eq_false'
abbrev z9v:=@List.all_eq_true
abbrev z9w:=@List.flatMap_cons
abbrev z9x:=@List.filter_cons
abbrev z9y:=@Nat.mul_le_mul_right
abbrev z9z:=@List.drop_eq_getElem_cons
abbrev za0:=@Nat.add_assoc
abbrev za1:=@Array.length_toList
abbrev za2:=@Bool.and_eq_false_iff
abbrev za3:=@Nat.pow_add
abbrev za4:=@List.mem_append
abbrev za5:=@List.take_succ_eq_append_getElem
abbrev za6:=@Nat.mod_lt
abbrev za7:=@List.nil_append
abbrev za8:=@decide_eq_false
abbrev za9:=@List.ext_getElem
abbrev zaa:=@List.getElem_map
abbrev zab:=@List.take_length
abbrev zac:=@List.mem_range
abbrev zad:=@List.length_singleton
abbrev zae:=@List.take_add_one
abbrev zaf:=@Bool.false_eq_true
abbrev zag:=@List.eq_nil_of_length_eq_zero
abbrev zah:=@Nat.mul_one
abbrev zai:=@List.pairwise_cons
abbrev zaj:=@List.take_zero
abbrev zak:=@List.not_mem_nil
abbrev zal:=@Nat.mod_eq_of_lt
abbrev zam:=@Nat.eq_of_beq_eq_true
abbrev zan:=@Nat.two_pow_pos
abbrev zao:=@List.drop_length
abbrev zap:=@Nat.add_zero
abbrev zaq:=@List.map_congr_left
abbrev zar:=@Nat.min_eq_left
abbrev zas:=@Nat.div_lt_iff_lt_mul
abbrev zat:=@List.take_succ_cons
abbrev zau:=@List.set_getElem_self
abbrev zav:=@List.nodup_cons
abbrev zaw:=@List.cons_append
abbrev zax:=@List.drop_succ_cons
abbrev zay:=@Array.toList_modify
abbrev zaz:=@List.mem_of_mem_drop
abbrev zb0:=@List.getElem_of_mem
abbrev zb1:=@Nat.mul_le_mul_left
abbrev zb2:=@List.set_cons_zero
abbrev zb3:=@Int.natCast_mul
abbrev zb4:=@Nat.div_add_mod'
abbrev zb5:=@List.mem_of_mem_take
abbrev zb6:=@List.foldl_append
abbrev zb7:=@Nat.le_of_ble_eq_true
abbrev zb8:=@Nat.add_sub_cancel_left
abbrev zb9:=@List.pairwise_map
abbrev zba:=@List.take_append_drop
abbrev zbb:=@Int.fdiv_eq_ediv_of_nonneg
abbrev zbc:=@Bool.eq_false_iff
abbrev zbd:=@Bool.not_eq_true
abbrev zbe:=@List.mem_or_eq_of_mem_set
abbrev zbf:=@List.length_eq_zero_iff
abbrev zbg:=@Array.getD_eq_getD_getElem?
abbrev zbh:=@List.drop_of_length_le
abbrev zbi:=@List.set_cons_succ
abbrev zbj:=@List.concat_eq_append
abbrev zbk:=@Nat.eq_zero_or_pos
abbrev zbl:=@Int.toNat_of_nonneg
abbrev zbm:=@List.flatMap_append
abbrev zbn:=@List.getElem_range
abbrev zbo:=@Option.isSome_iff_exists
abbrev zbp:=@List.getD_eq_getElem?_getD
abbrev zbq:=@List.eq_of_mem_replicate
namespace Go.Nm
abbrev Heap:=Array Obj
def q02 (H:Heap)(b off:Nat):Option Value:=
 match H[b]? with
 | some (.cells c _ _)=>c[off]?
 | _=>none
def q4f (H:Heap)(b off:Nat):Bool:=
 match H[b]? with
 | some (.cells _ _ (lo,hi))=>lo≤off && off < hi
 | _=>false
def q97 (H:Heap)(b off:Nat)(v:Value):Heap:=
 H.modify b fun
  | .cells c elem frozen=>.cells (c.setIfInBounds off v) elem frozen
  | o=>o
structure Rest (w w':World):Prop where
 os:w'.os=w.os
 tape:w'.tape=w.tape
 output:w'.output=w.output
inductive Leaf where
 | int (k:IntKind)|bool|str|ptr|slice|map|raw|fnv|adr
 | vec (k:IntKind) (n:Nat)
inductive Sh where
 | one (l:Leaf)
 | agg (ls:List Leaf)
def vecL (k:IntKind)(f:Nat→Int):Nat→Nat→List Value
 | 0,_=>[]
 | n+1,i=>.int k (f i)::vecL k f n (i+1)
def Leaf.all:Leaf→(Value→Prop)→Prop
 | .int k,K=>∀n:Int,K (.int k n)
 | .bool,K=>∀b:Bool,K (.bool b)
 | .str,K=>∀s:ByteArray,K (.string s)
 | .ptr,K=>∀a:Option Addr,K (.pointer a)
 | .slice,K=>∀(a:Option Addr) (n c:Nat),K (.slice a n c)
 | .map,K=>∀r:Option Nat,K (.map r)
 | .raw,K=>∀v:Value,K v
 | .adr,K=>∀b o:Nat,K (.pointer (some ⟨b,o,none⟩))
 | .fnv,K=>∀(f:FuncId) (cap:List Value),K (.func (.func f) ⟨[]⟩ ⟨cap⟩)
 | .vec _ _,_=>True
def Leaf.ex:Leaf→(Value→Prop)→Prop
 | .int k,K=>∃n:Int,K (.int k n)
 | .bool,K=>∃b:Bool,K (.bool b)
 | .str,K=>∃s:ByteArray,K (.string s)
 | .ptr,K=>∃a:Option Addr,K (.pointer a)
 | .slice,K=>∃(a:Option Addr) (n c:Nat),K (.slice a n c)
 | .map,K=>∃r:Option Nat,K (.map r)
 | .raw,K=>∃v:Value,K v
 | .adr,K=>∃b o:Nat,K (.pointer (some ⟨b,o,none⟩))
 | .fnv,K=>∃(f:FuncId) (cap:List Value),K (.func (.func f) ⟨[]⟩ ⟨cap⟩)
 | .vec _ _,_=>False
def allLs:List Leaf→(List Value→Prop)→Prop
 | [],K=>K []
 | l::r,K=>l.all fun v=>allLs r fun vs=>K (v::vs)
def exLs:List Leaf→(List Value→Prop)→Prop
 | [],K=>K []
 | .vec k n::r,K=>∃f:Nat→Int,exLs r fun vs=>K (vecL k f n 0++vs)
 | l::r,K=>l.ex fun v=>exLs r fun vs=>K (v::vs)
def Sh.all:Sh→(Value→Prop)→Prop
 | .one l,K=>l.all K
 | .agg ls,K=>allLs ls fun vs=>K (.agg ⟨vs⟩)
def Sh.ex:Sh→(Value→Prop)→Prop
 | .one l,K=>l.ex K
 | .agg ls,K=>exLs ls fun vs=>K (.agg ⟨vs⟩)
def qtm:List Sh→(List Value→Prop)→Prop
 | [],K=>K []
 | s::r,K=>s.ex fun v=>qtm r fun vs=>K (v::vs)
def qgh:List Sh→(Value→Prop)→Prop
 | [],K=>K (.tuple #[])
 | [s],K=>s.ex K
 | s::t::r,K=>qtm (s::t::r) fun vs=>K (.tuple ⟨vs⟩)
def Leaf.fn:Leaf→Type→Type
 | .int _,T=>Int→T
 | .bool,T=>Bool→T
 | .str,T=>ByteArray→T
 | .ptr,T=>Option Addr→T
 | .slice,T=>Option Addr→Nat→Nat→T
 | .map,T=>Option Nat→T
 | .raw,T=>Value→T
 | .fnv,T=>FuncId→List Value→T
 | .adr,T=>Nat→Nat→T
 | .vec _ _,T=>T
def fnLs:List Leaf→Type→Type
 | [],T=>T
 | l::r,T=>l.fn (fnLs r T)
def Sh.fn:Sh→Type→Type
 | .one l,T=>l.fn T
 | .agg ls,T=>fnLs ls T
abbrev Live:=List (Nat × Sh)
def JT (T:Type):Live→Type
 | []=>T
 | (_,s)::r=>s.fn (JT T r)
def Leaf.app:(l:Leaf)→{T:Type}→l.fn T→Value→Option T
 | .int k,_,f,.int k' n=>if k=k' then some (f n) else none
 | .bool,_,f,.bool b=>some (f b)
 | .str,_,f,.string s=>some (f s)
 | .ptr,_,f,.pointer a=>some (f a)
 | .slice,_,f,.slice a n c=>some (f a n c)
 | .map,_,f,.map r=>some (f r)
 | .raw,_,f,v=>some (f v)
 | .fnv,_,f,.func (.func g) ⟨[]⟩ ⟨cap⟩=>some (f g cap)
 | .adr,_,f,.pointer (some ⟨b,o,none⟩)=>some (f b o)
 | _,_,_,_=>none
def qze:(ls:List Leaf)→{T:Type}→fnLs ls T→List Value→Option T
 | [],_,f,[]=>some f
 | l::r,_,f,v::vs=>match l.app (T:=fnLs r _) f v with|some g=>qze r g vs|none=>none
 | _,_,_,_=>none
def Sh.app:(s:Sh)→{T:Type}→s.fn T→Value→Option T
 | .one l,_,f,v=>l.app f v
 | .agg ls,_,f,.agg cs=>qze ls f cs.toList
 | .agg _,_,_,_=>none
inductive SV where
 | p (v:Value)
 | g (j:Nat) (b:Bool) (v:Value)
 | x
abbrev Fr:=List SV
def lget {α:Type}:List α→Nat→Option α
 | [],_=>none
 | a::_,0=>some a
 | _::r,n+1=>lget r n
def lset {α:Type}:List α→Nat→α→List α
 | [],_,_=>[]
 | _::r,0,x=>x::r
 | a::r,n+1,x=>a::lset r n x
def Fr.put (fr:Fr)(d:Option Tmp)(s:SV):Fr:=match d with|some t=>lset fr t s|none=>fr
def kill (ts:List Nat)(fr:Fr):Fr:=ts.foldl (fun f t=>lset f t .x) fr
def qhi (fr:Fr):Fr:=fr.map fun|.g _ _ _=>.x|s=>s
def getP (fr:Fr)(t:Nat):Option Value:=match lget fr t with|some (.p v)=>some v|_=>none
def appJ:(L:Live)→{T:Type}→JT T L→Fr→Option T
 | [],_,j,_=>some j
 | (t,s)::r,T,j,fr=>match getP fr t with
  | some v=>match s.app (T:=JT T r) j v with
   | some j'=>appJ r j' fr
   | none=>none
  | none=>none
def q6e (L:Live)(J:JT (Heap→Prop) L)(fr:Fr)(H:Heap):Prop:=match appJ L J fr with|some p=>p H|none=>False
def allJ:Live→Fr→(Fr→Prop)→Prop
 | [],fr,K=>K fr
 | (t,s)::r,fr,K=>s.all fun v=>allJ r (lset fr t (.p v)) K
def q4x (P:Program)(s:Sem Value)(v:Value):Prop:=∀w,s.run P w=.ok v w
def q5v (P:Program)(op:BinOp)(t:TypeId)(x y:Value)(b:Bool):Prop:=∀ox oy w,(do eqGuard op t ox oy x y; binOp op t x y:Sem Value).run P w=.ok (.bool b) w
def qhj (P:Program)(f:FuncId)(args:Array Value)(v:Value):Prop:=∀w,(callFunc f args).run P w=.ok (.value v) w
def q0b (P:Program)(s:Sem Value)(H:Heap)(v:Value):Prop:=∀w,w.heap=H→s.run P w=.ok v w
def RunW {α:Type}(P:Program)(s:Sem α)(H:Heap)(K:α→Heap→Prop):Prop:=
 ∀w,w.heap=H→∃a w',s.run P w=.ok a w'∧Rest w w'∧K a w'.heap
def Fin (w:World)(K:Value→Heap→Prop):Ending→World→Prop
 | .returned v,w'=>Rest w w'∧K v w'.heap
 | .panicked _,_=>False
 | .outgrown,_=>False
def qcq (P:Program)(f:FuncId)(args:Array Value)(H:Heap)(K:Value→Heap→Prop):Prop:=
 ∀w,w.heap=H→Calls P f args w (Fin w K)
def FinP (w:World)(K KP:Value→Heap→Prop):Ending→World→Prop
 | .returned v,w'=>Rest w w'∧K v w'.heap
 | .panicked chain,w'=>∃v,chain=[{ v,recovered:=false }]∧Rest w w'∧KP v w'.heap
 | .outgrown,_=>False
def qzf (P:Program)(f:FuncId)(args:Array Value)(H:Heap)(K KP:Value→Heap→Prop):Prop:=
 ∀w,w.heap=H→Calls P f args w (FinP w K KP)
def q1k (P:Program)(f:FuncId)(args:Array Value)(H:Heap)(v:Value):Prop:=qcq P f args H fun v' H'=>v'=v∧H'=H
def q4g (P:Program)(l:Nat)(vs:List Value)(H:Heap)(K:Value→Heap→Prop):Prop:=
 ∀w,w.heap=H→∃fn tmps assign body,(Instr.yield l ⟨vs⟩).run P w=.ok (.round l fn tmps assign body) w∧RoundIn Fence.wide 0 P l fn tmps assign body w (Fin w K)
def q3b (P:Program)(f:FuncId):Prop:=∃fn,P.funcs[f]?=some fn∧fn.body.isNone=false∧(fn.name == "runtime.NumGoroutine")=false
inductive DM where
 | mark (r:Nat)
 | fn (g:FuncId) (cap:List Value)
structure Ctx where
 P:Program
 quiet:List FuncId
 calls:List FuncId
 nexts:List (Nat × Sh × Sh):=[]
 pan:List FuncId:=[]
 ext:List FuncId:=[]
 kp:Value→Heap→Prop:=fun _ _=>False
def Ctx.nx (X:Ctx)(l:List (Nat × Sh × Sh)):Ctx:={ X with nexts:=l }
def nextOf:List (Nat × Sh × Sh)→Option Tmp→Option (Sh × Sh)
 | _,none=>none
 | [],some _=>none
 | (t,k,x)::r,some d=>match Nat.beq t d with|true=>some (k,x)|false=>nextOf r (some d)
inductive Kind where
 | P|R|W
 deriving DecidableEq
def memN (n:Nat):List Nat→Bool
 | []=>false
 | m::r=>Nat.beq n m || memN n r
def leafOf:TypeDesc→Option Leaf
 | .bool=>some .bool
 | .int k=>some (.int k)
 | .string=>some .str
 | .pointer _=>some .ptr
 | .slice _=>some .slice
 | .map _ _=>some .map
 | .func _ _ _=>some .fnv
 | .interface _=>some .raw
 | _=>none
def qcr (P:Program):Nat→TypeId→Option (List Leaf)
 | 0,_=>none
 | n+1,t=>match P.underlying t with
  | some (.struct fs)=>fs.toList.foldr (fun f acc=>match qcr P n f.type,acc with|some a,some b=>some (a++b)|_,_=>none) (some [])
  | some (.array k e)=>match qcr P n e with
   | some a=>(match a,Nat.ble 16 k with|[.int ki],true=>some [.vec ki k]|a,_=>some ((List.replicate k a).flatten))
   | none=>none
  | some d=>match leafOf d with|some l=>some [l]|none=>none
  | none=>none
def aggT (P:Program)(t:TypeId):Bool:=match P.underlying t with|some (.struct _)|some (.array _ _)=>true|_=>false
def q6f (P:Program)(t:TypeId):Option Sh:=
 match aggT P t,qcr P 9 t with
 | true,some ls=>some (.agg ls)
 | false,some [l]=>some (.one l)
 | _,_=>none
def exT (P:Program)(t:TypeId)(K:Value→Prop):Prop:=match q6f P t with|some s=>s.ex K|none=>False
def qx1 (P:Program)(t:TypeId)(K:List Value→Prop):Prop:=match qcr P 9 t with|some ls=>exLs ls K|none=>False
def q03 (H:Heap)(b:Nat):Nat→List Value→Prop
 | _,[]=>True
 | o,[v]=>q02 H b o=some v
 | o,v::r=>q02 H b o=some v∧q03 H b (o+1) r
def gt:Option Prop→Prop→Prop
 | none,p=>p
 | some c,p=>c→p
def q0o {α:Type}(o:Option α)(K:α→Prop):Prop:=match o with|some v=>K v|none=>False
def q0g (op:BinOp)(k:IntKind)(x y:Int):Int:=
 match op with
 | .and=>k.wrap (BitVec.ofInt k.bits x &&& BitVec.ofInt k.bits y).toNat
 | .or=>k.wrap (BitVec.ofInt k.bits x ||| BitVec.ofInt k.bits y).toNat
 | .xor=>k.wrap (BitVec.ofInt k.bits x ^^^ BitVec.ofInt k.bits y).toNat
 | _=>k.wrap (BitVec.ofInt k.bits x &&& ~~~BitVec.ofInt k.bits y).toNat
def z48 (op:BinOp)(k:IntKind)(x y:Int)(c:Option Prop)(K:Value→Prop):Prop:=
 match op with
 | .add=>K (.int k (k.wrap (x+y)))
 | .sub=>K (.int k (k.wrap (x - y)))
 | .mul=>K (.int k (k.wrap (x*y)))
 | .quo=>gt c (y≠0)∧K (.int k (k.wrap (x.tdiv y)))
 | .rem=>gt c (y≠0)∧K (.int k (x.tmod y))
 | .and=>K (.int k (q0g .and k x y))
 | .or=>K (.int k (q0g .or k x y))
 | .xor=>K (.int k (q0g .xor k x y))
 | .andNot=>K (.int k (q0g .andNot k x y))
 | .eql=>K (.bool (decide (x=y)))
 | .neq=>K (.bool (!decide (x=y)))
 | .lss=>K (.bool (decide (x < y)))
 | .leq=>K (.bool (decide (x≤y)))
 | .gtr=>K (.bool (decide (y < x)))
 | .geq=>K (.bool (decide (y≤x)))
 | .shl=>gt c (0≤y)∧K (.int k (k.wrap (x*2 ^ (min y.toNat k.bits))))
 | .shr=>gt c (0≤y)∧K (.int k (x.fdiv (2 ^ (min y.toNat k.bits))))
def z49 (op:BinOp)(x y:ByteArray)(c:Option Prop)(K:Value→Prop):Prop:=
 match op with
 | .add=>gt c (((x.size+y.size:Nat):Int)≤i64.max)∧K (.string (x++y))
 | .eql=>K (.bool (x.toList == y.toList))
 | .neq=>K (.bool (!(x.toList == y.toList)))
 | .lss=>K (.bool (Op.bytesLess x.toList y.toList))
 | .leq=>K (.bool (Op.bytesLess x.toList y.toList || x.toList == y.toList))
 | .gtr=>K (.bool (!(Op.bytesLess x.toList y.toList || x.toList == y.toList)))
 | .geq=>K (.bool (!Op.bytesLess x.toList y.toList))
 | _=>False
def qmv (d:Option TypeDesc)(x y:Value):Option Bool:=
 match d,x,y with
 | some .bool,.bool a,.bool b=>some (a == b)
 | some (.pointer _),.pointer a,.pointer none=>some a.isNone
 | some (.slice _),.slice a _ _,.slice none _ _=>some a.isNone
 | some (.map _ _),.map a,.map none=>some a.isNone
 | some (.func _ _ _),.func _ _ _,.nilFunc=>some false
 | some (.func _ _ _),.nilFunc,.nilFunc=>some true
 | _,_,_=>none
def binP (P:Program)(op:BinOp)(t:TypeId)(x y:Value)(c:Option Prop)(K:Value→Prop):Prop:=
 match x,y with
 | .int k a,.int k' b=>if k=k' then z48 op k a b c K else (match op with
  | .shl=>gt c (0≤b)∧K (.int k (k.wrap (a*2 ^ (min b.toNat k.bits))))
  | .shr=>gt c (0≤b)∧K (.int k (a.fdiv (2 ^ (min b.toNat k.bits))))
  | _=>False)
 | .string a,.string b=>z49 op a b c K
 | x,y=>match op,qmv (P.underlying t) x y with
  | .eql,some b=>K (.bool b)
  | .neq,some b=>K (.bool !b)
  | op,none=>∃b:Bool,gt c (q5v P op t x y b)∧K (.bool b)
  | _,_=>False
def ifaceT (P:Program)(t:TypeId):Bool:=match P.underlying t with|some (.interface _)=>true|_=>false
def binQ (P:Program)(op:BinOp)(t:TypeId)(x y:Value)(c:Option Prop)(K:Value→Prop):Prop:=
 match ifaceT P t with
 | true=>∃b:Bool,gt c (q5v P op t x y b)∧K (.bool b)
 | false=>binP P op t x y c K
def unP (op:UnOp)(x:Value)(K:Value→Prop):Prop:=
 match op,x with
 | .neg,.int k n=>K (.int k (k.wrap (0 - n)))
 | .xor,.int k n=>K (.int k (q0g .xor k (if k.signed then -1 else k.max) n))
 | .not,.bool b=>K (.bool !b)
 | _,_=>False
def z4a (c:Bool)(a b:Value):Value:=
 match a,b with
 | .bool x,.bool y=>.bool (cond c x y)
 | a,b=>cond c a b
def qx2 (o:Nat)(n:Int):Nat→Nat
 | 1=>o+n.toNat
 | s=>o+n.toNat*s
theorem qpd (o:Nat)(n:Int)(s:Nat):qx2 o n s=o+n.toNat*s:=by unfold qx2; split <;> simp
def qmw (P:Program)(t:TypeId)(q:Prop):Prop:=match P.cellsOf t with|0=>False|_+1=>q
def slB (a:Option Addr)(l m size:Nat):Option Addr:=if m=l then a else a.map (·.add (l*size))
def q32 (x:Value)(K:Int→Prop):Prop:=match x with|.int _ n=>K n|_=>False
def z4b (P:Program)(t:TypeId)(x:Value)(lo hi:Option Value)(c:Option Prop)(K:Value→Prop):Prop:=
 match P.underlying t,x with
 | some .string,.string s=>
  let go (l h:Int):Prop:=gt c (0≤l∧l≤h∧h≤(s.size:Int))∧K (.string (s.extract l.toNat h.toNat))
  match lo,hi with
  | some l,some h=>q32 l fun l=>q32 h fun h=>go l h
  | some l,none=>q32 l fun l=>go l s.size
  | none,some h=>q32 h fun h=>go 0 h
  | none,none=>go 0 s.size
 | some (.slice e),.slice a len cap=>
  let go (l h:Int):Prop:=gt c (0≤l∧l≤h∧h≤(cap:Int))∧K (.slice (slB a l.toNat cap (P.cellsOf e)) (h.toNat - l.toNat) (cap - l.toNat))
  qmw P e <| match lo,hi with
  | some l,some h=>q32 l fun l=>q32 h fun h=>go l h
  | some l,none=>q32 l fun l=>go l len
  | none,some h=>q32 h fun h=>go 0 h
  | none,none=>go 0 len
 | some (.array n e),.pointer (some a)=>
  let go (l h:Int):Prop:=gt c (0≤l∧l≤h∧h≤(n:Int))∧K (.slice (slB (some a) l.toNat n (P.cellsOf e)) (h.toNat - l.toNat) (n - l.toNat))
  qmw P e <| match lo,hi with
  | some l,some h=>q32 l fun l=>q32 h fun h=>go l h
  | some l,none=>q32 l fun l=>go l n
  | none,some h=>q32 h fun h=>go 0 h
  | none,none=>go 0 n
 | _,_=>False
def qtn (P:Program)(t:TypeId)(x l h m:Value)(c:Option Prop)(K:Value→Prop):Prop:=
 match P.underlying t,x,l,h,m with
 | some (.slice e),.slice a _ cap,.int _ l,.int _ h,.int _ m=>qmw P e <| gt c (0≤l∧l≤h∧h≤m∧m≤(cap:Int))∧K (.slice (slB a l.toNat m.toNat (P.cellsOf e)) (h.toNat - l.toNat) (m.toNat - l.toNat))
 | _,_,_,_,_=>False
def bAt (s:ByteArray)(i:Nat):Int:=(((s.data[i]?).getD 0).toNat:Int)
def z4c (P:Program)(t:TypeId)(x i:Value)(c:Option Prop)(K:Value→Prop):Prop:=
 match P.underlying t,x,i with
 | some .string,.string s,.int _ n=>gt c (0≤n∧n < (s.size:Int))∧K (.int .u8 (bAt s n.toNat))
 | some (.array _ e),x,i=>match q6f P e with
  | some s=>s.ex fun v=>gt c (q4x P (Instr.index t x i) v)∧K v
  | none=>False
 | _,_,_=>False
def qej (P:Program)(t:TypeId)(x i:Value)(c:Option Prop)(K:Value→Prop):Prop:=
 match P.underlying t,x,i with
 | some (.slice e),.slice a len _,.int _ n=>qmw P e <| gt c (0≤n∧n < (len:Int))∧∃b o:Nat,gt c (a=some ⟨b,o,none⟩)∧K (.pointer (some ⟨b,qx2 o n (P.cellsOf e),none⟩))
 | some (.array len e),.pointer (some ⟨b,o,none⟩),.int _ n=>qmw P e <| gt c (0≤n∧n < (len:Int))∧K (.pointer (some ⟨b,qx2 o n (P.cellsOf e),none⟩))
 | _,_,_=>False
def qek (P:Program)(t:TypeId)(x:Value)(f:Nat)(K:Value→Prop):Prop:=
 match P.underlying t,x with
 | some (.struct fs),.pointer (some ⟨b,o,none⟩)=>match lget fs.toList f with
  | some fd=>qmw P fd.type <| K (.pointer (some ⟨b,o+fd.offset,none⟩))
  | none=>False
 | _,_=>False
def fieldP (P:Program)(t:TypeId)(x:Value)(f:Nat)(c:Option Prop)(K:Value→Prop):Prop:=
 match P.underlying t with
 | some (.struct fs)=>match lget fs.toList f with
  | some fd=>match q6f P fd.type with
   | some s=>s.ex fun u=>gt c (q4x P (Instr.field t x f) u)∧K u
   | none=>False
  | none=>False
 | _=>False
def adrB:Option Addr→Nat
 | some a=>a.block
 | none=>0
def adrO:Option Addr→Nat
 | some a=>a.off
 | none=>0
def isA:Option Addr→Prop
 | some ⟨_,_,none⟩=>True
 | _=>False
def NN (a:Option Addr)(p:Prop):Prop:=match a with
 | some ⟨_,_,none⟩=>p
 | _=>False
theorem isA_iff {a:Option Addr}:isA a↔a=some ⟨adrB a,adrO a,none⟩:=by
 rcases a with _|⟨b,o,_|s⟩ <;> simp [isA,adrB,adrO]
theorem z4d {a:Option Addr}{p:Prop}:NN a p↔a=some ⟨adrB a,adrO a,none⟩∧p:=by
 rcases a with _|⟨b,o,_|s⟩ <;> simp [NN,adrB,adrO]
def qcs (x:Value)(c:Option Prop)(K:Value→Prop):Prop:=
 match x with
 | .pointer a=>(match c with
  | none=>NN a (K (.pointer (some ⟨adrB a,adrO a,none⟩)))
  | some c=>(c→isA a)∧K (.pointer (some ⟨adrB a,adrO a,none⟩)))
 | .func (.func f) a b=>K (.func (.func f) a b)
 | .func (.yield f) a b=>K (.func (.yield f) a b)
 | _=>False
def qpe (P:Program)(t:TypeId):Option (List Value):=match P.info? t with|some i=>(match i.zero with|some v=>some v.cells.toList|none=>none)|none=>none
def offOf (P:Program):List Field→Nat→Option (Nat × Nat)
 | fs,i=>match lget fs i with|some f=>some (f.offset,P.cellsOf f.type)|none=>none
def qgv:List Value→Nat→List Value→List Value
 | cs,_,[]=>cs
 | cs,o,v::r=>qgv (lset cs o v) (o+1) r
def qto (place:Nat→Option (Nat × Nat)):List Value→List (Nat × Value)→Option (List Value)
 | cells,[]=>some cells
 | cells,(i,v)::rest=>
  match place i with
  | none=>none
  | some (off,size)=>if v.cells.toList.length=size∧off+size≤cells.length then qto place (qgv cells off v.cells.toList) rest else none
def qmx (P:Program):List Field→Bool
 | []=>true
 | f::r=>(P.info? f.type).isSome && qmx P r
def z4e (P:Program)(t:TypeId)(parts:List (Nat × Value)):Option (List Value):=
 match qpe P t,P.underlying t with
 | some z,some (.struct fs)=>if qmx P fs.toList=true then qto (offOf P fs.toList) z parts else none
 | some z,some (.array _ e)=>match P.info? e with
  | some _=>qto (fun i=>some (i*P.cellsOf e,P.cellsOf e)) z parts
  | none=>none
 | _,_=>none
def repL (z:List Value):Nat→List Value
 | 0=>[]
 | n+1=>z++repL z n
def qbv (P:Program)(e:TypeId)(len:Nat)(parts:List (Nat × Value)):Option (List Value):=
 match qpe P e with
 | some z=>if z.length=P.cellsOf e then qto (fun i=>some (i*P.cellsOf e,P.cellsOf e)) (repL z len) parts else none
 | none=>none
def q45 (ev:Operand→Option Value):List Operand→Option (List Value)
 | []=>some []
 | x::r=>match ev x,q45 ev r with|some v,some vs=>some (v::vs)|_,_=>none
def q9f (ev:Operand→Option Value):List (Nat × Operand)→Option (List (Nat × Value))
 | []=>some []
 | (i,x)::r=>match ev x,q9f ev r with|some v,some vs=>some ((i,v)::vs)|_,_=>none
def qzg (ev:Operand→Option Value):Option Operand→Option (Option Value)
 | none=>some none
 | some x=>match ev x with|some v=>some (some v)|none=>none
def convP (P:Program)(s d:TypeId)(x:Value)(K:Value→Prop):Prop:=
 match P.underlying s,P.underlying d,x with
 | some _,some (.int k),.int _ n=>K (.int k (k.wrap n))
 | some _,some .string,.string b=>K (.string b)
 | _,_,_=>False
def lenP (P:Program)(t:TypeId)(x:Value)(K:Value→Prop):Prop:=
 match P.underlying t,x with
 | some .string,.string s=>K (.int .i64 s.size)
 | some (.slice _),.slice _ n _=>K (.int .i64 n)
 | some (.array n _),_=>K (.int .i64 n)
 | _,_=>False
def mmP (isMax:Bool):List Value→(Value→Prop)→Prop
 | [.int k x,.int _ y],K=>K (.int k (match isMax with|true=>if y > x then y else x|false=>if y < x then y else x))
 | [.int k x,.int _ y,.int _ z],K=>(match isMax with
  | true=>K (.int k (if z > (if y > x then y else x) then z else (if y > x then y else x)))
  | false=>K (.int k (if z < (if y < x then y else x) then z else (if y < x then y else x))))
 | _,_=>False
def qx3 (X:Ctx)(ev:Operand→Option Value)(pk:Operand→Operand→Operand→Option (Bool × Value × Value))(c:Option Prop)(op:Op)(K:Value→Prop):Prop:=
 match op with
 | .move x|.assign x=>q0o (ev x) K
 | .pick a b d=>q0o (pk a b d) fun r=>K (z4a r.1 r.2.1 r.2.2)
 | .nilCheck x=>q0o (ev x) fun v=>qcs v c K
 | .binOp op t x y _=>q0o (ev x) fun a=>q0o (ev y) fun b=>binQ X.P op t a b c K
 | .unOp op _ x=>q0o (ev x) fun v=>unP op v K
 | .convert s d x=>q0o (ev x) fun v=>convP X.P s d v K
 | .fieldAddr t x f=>q0o (ev x) fun v=>qek X.P t v f K
 | .field t x f=>q0o (ev x) fun v=>fieldP X.P t v f c K
 | .indexAddr t x i=>q0o (ev x) fun v=>q0o (ev i) fun n=>qej X.P t v n c K
 | .index t x i=>q0o (ev x) fun v=>q0o (ev i) fun n=>z4c X.P t v n c K
 | .extract t i=>q0o (ev t) fun v=>(match v with|.tuple vs=>q0o (lget vs.toList i) K|_=>False)
 | .slice t x lo hi mx=>(match mx with
  | none=>q0o (ev x) fun v=>q0o (qzg ev lo) fun l=>q0o (qzg ev hi) fun h=>z4b X.P t v l h c K
  | some mx=>(match lo,hi with
   | some lo,some hi=>q0o (ev x) fun v=>q0o (ev lo) fun l=>q0o (ev hi) fun h=>q0o (ev mx) fun m=>qtn X.P t v l h m c K
   | _,_=>False))
 | .build t ps=>q0o (q9f ev ps.toList) fun vs=>q0o (z4e X.P t vs) fun l=>K (.agg ⟨l⟩)
 | .makeInterface t x=>q0o (ev x) fun v=>(match X.P.underlying t with|some (.interface _)=>False|some _=>K (.iface t v)|none=>False)
 | .typeAssert x t u ok=>(match ok with
  | true=>q0o (ev x) fun v=>exT X.P u fun y=>∃there:Bool,gt c (q4x X.P (Instr.typeAssert v t u true) (.tuple #[y,.bool there]))∧K (.tuple #[y,.bool there])
  | false=>False)
 | .makeFunc fn a b=>q0o (q45 ev a.toList) fun va=>q0o (q45 ev b.toList) fun vb=>K (.func fn ⟨va⟩ ⟨vb⟩)
 | .call cl=>(match cl.callee,cl.argTypes.toList with
  | .builtin .len,t::_=>q0o (q45 ev cl.args.toList) fun vs=>(match vs with|v::_=>lenP X.P t v K|[]=>False)
  | .builtin .max,_=>q0o (q45 ev cl.args.toList) fun vs=>mmP true vs K
  | .builtin .min,_=>q0o (q45 ev cl.args.toList) fun vs=>mmP false vs K
  | _,_=>False)
 | _=>False
def z4f (P:Program):List TypeId→Option (List Sh)
 | []=>some []
 | t::r=>match q6f P t,z4f P r with|some s,some ss=>some (s::ss)|_,_=>none
def qct (P:Program)(t:TypeId):Option (List Sh):=
 match P.underlying t with
 | some (.tuple ts)=>z4f P ts.toList
 | _=>match q6f P t with|some s=>some [s]|none=>none
def qx4 (X:Ctx)(ev:Operand→Option Value)(c:Option Prop)(o:Oper)(H:Heap)(K:Value→(Heap→Prop)→Prop):Prop:=
 match o.op with
 | .load t x=>q0o (ev x) fun v=>(match v with
  | .pointer (some ⟨b,off,none⟩)=>(match aggT X.P t with
   | true=>qx1 X.P t fun us=>(if us.length=X.P.cellsOf t then gt c (q03 H b off us)∧K (.agg ⟨us⟩) fun H'=>gt c (q03 H' b off us) else False)
   | false=>exT X.P t fun u=>gt c (q02 H b off=some u)∧K u fun H'=>gt c (q02 H' b off=some u))
  | _=>False)
 | .lookup t x i ok=>q0o (ev x) fun m=>q0o (ev i) fun k=>(match X.P.underlying t with
  | some (.map _ e)=>exT X.P e fun u=>(match ok with
   | true=>∃there:Bool,gt c (q0b X.P (Instr.lookup t m k true) H (.tuple #[u,.bool there]))∧K (.tuple #[u,.bool there]) fun H'=>gt c (q0b X.P (Instr.lookup t m k true) H' (.tuple #[u,.bool there]))
   | false=>gt c (q0b X.P (Instr.lookup t m k false) H u)∧K u fun H'=>gt c (q0b X.P (Instr.lookup t m k false) H' u))
  | _=>False)
 | .convert s d x=>q0o (ev x) fun v=>(match X.P.underlying d with
  | some .string=>∃b:ByteArray,gt c (q0b X.P (convert s d v) H (.string b))∧K (.string b) fun H'=>gt c (q0b X.P (convert s d v) H' (.string b))
  | _=>False)
 | .entry it=>q0o (ev it) fun v=>(match nextOf X.nexts o.dst with
  | some (ks,xs)=>ks.ex fun k=>xs.ex fun x=>gt c (q0b X.P (Instr.entry v) H (.tuple #[k,x]))∧K (.tuple #[k,x]) fun H'=>gt c (q0b X.P (Instr.entry v) H' (.tuple #[k,x]))
  | none=>False)
 | .call cl=>(match cl.callee with
  | .value (.func f)=>(match memN f X.ext with
   | true=>q0o (q45 ev cl.args.toList) fun vs=>q0o (qct X.P o.type) fun ss=>qgh ss fun u=>gt c (qhj X.P f ⟨vs⟩ u)∧K u fun _=>gt c (qhj X.P f ⟨vs⟩ u)
   | false=>if memN f X.calls=false then False else q0o (q45 ev cl.args.toList) fun vs=>q0o (qct X.P o.type) fun ss=>qgh ss fun u=>gt c (q1k X.P f ⟨vs⟩ H u)∧K u fun H'=>gt c (q1k X.P f ⟨vs⟩ H' u))
  | .builtin .len=>q0o (q45 ev cl.args.toList) fun vs=>∃n:Int,gt c (q0b X.P (Builtin.len_ cl.argTypes o.type ⟨vs⟩) H (.int .i64 n))∧K (.int .i64 n) fun H'=>gt c (q0b X.P (Builtin.len_ cl.argTypes o.type ⟨vs⟩) H' (.int .i64 n))
  | _=>False)
 | _=>False
def q38 (H:Heap)(b:Nat):Nat→List Value→Prop
 | _,[]=>True
 | o,_::r=>((q02 H b o).isSome=true∧q4f H b o=false)∧q38 H b (o+1) r
def q46 (H:Heap)(b:Nat):Nat→List Value→Heap
 | _,[]=>H
 | o,v::r=>q46 (q97 H b o v) b (o+1) r
def q09:List Value→Bool
 | []=>true
 | .agg _::_=>false
 | .tuple _::_=>false
 | _::r=>q09 r
def panP (v:Value)(kp:Value→Heap→Prop)(H:Heap):Prop:=match v with
 | .iface t u=>kp (.iface t u) H
 | _=>False
def qmy (X:Ctx)(ev:Operand→Option Value)(o:Oper)(H:Heap)(K:Value→Heap→Prop):Prop:=
 match o.op with
 | .alloc t=>q0o (qpe X.P t) fun z=>∀(b:Nat) (H':Heap),b=H.size→H'=H.push (.cells ⟨z⟩ t)→K (.pointer (some ⟨b,0,none⟩)) H'
 | .box t x=>q0o (ev x) fun v=>∀(b:Nat) (H':Heap),b=H.size→H'=H.push (.cells v.cells t)→K (.pointer (some ⟨b,0,none⟩)) H'
 | .buildSlice t n ps=>q0o (q9f ev ps.toList) fun vs=>(match X.P.underlying t with
  | some (.slice e)=>q0o (qbv X.P e n vs) fun l=>(if n*X.P.cellsOf e≤16777216 then ∀(b:Nat) (H':Heap),b=H.size→H'=H.push (.cells ⟨l⟩ e)→K (.slice (some ⟨b,0,none⟩) n n) H' else False)
  | _=>False)
 | .makeMap _ r=>(match r with
  | none=>∀(b:Nat) (H':Heap),b=H.size→H'=H.push (.map #[] 0)→K (.map (some b)) H'
  | some _=>False)
 | .store t x y=>q0o (ev x) fun a=>q0o (ev y) fun v=>(match a with
  | .pointer (some ⟨b,off,none⟩)=>
   qmw X.P t <| if v.cells.toList.length=X.P.cellsOf t∧q09 v.cells.toList=true then q38 H b off v.cells.toList∧∀H':Heap,H'=q46 H b off v.cells.toList→K undef H' else False
  | _=>False)
 | .makeSlice t l c=>q0o (ev l) fun a=>q0o (ev c) fun b=>RunW X.P (Instr.makeSlice t a b) H fun v H'=>exT X.P t fun u=>v=u∧K u H'
 | .mapUpdate t m k x|.insert t m k x=>q0o (ev m) fun a=>q0o (ev k) fun b=>q0o (ev x) fun v=>RunW X.P (Instr.mapUpdate t a b v) H fun _ H'=>K undef H'
 | .mapEntry t m k=>q0o (ev m) fun a=>q0o (ev k) fun b=>RunW X.P (Instr.mapEntry t a b) H fun v H'=>(match X.P.underlying t with
  | some (.map _ e)=>exT X.P e fun u=>∃n:Int,v=.tuple #[u,.int .i64 n]∧K (.tuple #[u,.int .i64 n]) H'
  | _=>False)
 | .entryStore t m k x=>q0o (ev m) fun a=>q0o (ev k) fun b=>q0o (ev x) fun v=>RunW X.P (Instr.entryStore t a b v) H fun _ H'=>K undef H'
 | .range t x=>q0o (ev x) fun v=>RunW X.P (Instr.range t v) H fun u H'=>∃r:Nat,u=.pointer (some ⟨r,0,none⟩)∧K (.pointer (some ⟨r,0,none⟩)) H'
 | .next it s=>q0o (ev it) fun v=>RunW X.P (Instr.next v s o.type) H fun u H'=>(u=.tuple #[.bool false]∧K (.tuple #[.bool false]) H')∨∃k x:Value,u=.tuple #[.bool true,k,x]∧K (.tuple #[.bool true,k,x]) H'
 | .convert s d x=>q0o (ev x) fun v=>RunW X.P (convert s d v) H fun u H'=>exT X.P d fun u'=>u=u'∧K u' H'
 | .call cl=>(match cl.callee with
  | .value (.func f)=>if memN f X.calls=false then False else q0o (q45 ev cl.args.toList) fun vs=>q0o (qct X.P o.type) fun ss=>(match memN f X.pan with
   | true=>qzf X.P f ⟨vs⟩ H (fun v H'=>qgh ss fun u=>v=u∧K u H') X.kp
   | false=>qcq X.P f ⟨vs⟩ H fun v H'=>qgh ss fun u=>v=u∧K u H')
  | .value x=>q0o (ev x) fun fv=>q0o (q45 ev cl.args.toList) fun vs=>q0o (qct X.P o.type) fun ss=>(match fv with
   | .func (.func f) first cap=>memN f X.calls=true∧qcq X.P f ⟨first.toList++vs++cap.toList⟩ H fun v H'=>qgh ss fun u=>v=u∧K u H'
   | .func (.yield l) ⟨[]⟩ ⟨[]⟩=>q4g X.P l vs H fun v H'=>qgh ss fun u=>v=u∧K u H'
   | _=>False)
  | .builtin .append=>q0o (q45 ev cl.args.toList) fun vs=>RunW X.P (Builtin.append_ cl.argTypes o.type ⟨vs⟩) H fun v H'=>∃(a:Option Addr) (n c:Nat),v=.slice a n c∧K (.slice a n c) H'
  | .builtin .copy=>q0o (q45 ev cl.args.toList) fun vs=>RunW X.P (Builtin.copy_ cl.argTypes o.type ⟨vs⟩) H fun v H'=>∃n:Int,v=.int .i64 n∧K (.int .i64 n) H'
  | .builtin .delete=>q0o (q45 ev cl.args.toList) fun vs=>RunW X.P (Builtin.delete_ cl.argTypes o.type ⟨vs⟩) H fun v H'=>K v H'
  | .builtin .clear=>q0o (q45 ev cl.args.toList) fun vs=>RunW X.P (Builtin.clear_ cl.argTypes o.type ⟨vs⟩) H fun v H'=>K v H'
  | _=>False)
 | .panic x=>q0o (ev x) fun v=>panP v X.kp H
 | _=>False
def basicT (P:Program)(t:TypeId):Bool:=match P.underlying t with|some .string|some (.slice _)|some (.array _ _)=>true|_=>false
def intOrStr (P:Program)(t:TypeId):Bool:=match P.underlying t with|some (.int _)|some .string=>true|_=>false
def q91 (X:Ctx)(op:Op):Kind:=
 match op with
 | .move _|.assign _|.pick _ _ _|.nilCheck _|.binOp _ _ _ _ _|.unOp _ _ _|.fieldAddr _ _ _|.field _ _ _|.indexAddr _ _ _|.index _ _ _|.extract _ _|.slice _ _ _ _ _|.build _ _|.makeInterface _ _|.typeAssert _ _ _ _|.makeFunc _ _ _=>.P
 | .convert s d _=>match intOrStr X.P s,X.P.underlying d with
  | true,some (.int _)=>.P
  | true,some .string=>(match X.P.underlying s with|some .string=>.P|_=>.W)
  | false,some .string=>.R
  | _,_=>.W
 | .load _ _|.lookup _ _ _ _|.entry _=>.R
 | .call cl=>match cl.callee,cl.argTypes.toList with
  | .builtin .len,t::_=>if basicT X.P t then .P else .R
  | .builtin .max,_|.builtin .min,_=>.P
  | .value (.func f),_=>if memN f X.quiet then .R else .W
  | _,_=>.W
 | _=>.W
abbrev I64:=Value.int .i64
abbrev PA (b o:Nat):Value:=.pointer (some ⟨b,o,none⟩)
abbrev IF (c:Bool)(p q:Prop):Prop:=(c=true→p)∧(c=false→q)
abbrev AL (H:Heap)(cs:List Value)(t:Nat)(k:Nat→Heap→Prop):Prop:=∀(b:Nat) (H':Heap),b=H.size→H'=H.push (.cells ⟨cs⟩ t)→k b H'
abbrev ST (H:Heap)(b o:Nat)(vs:List Value)(k:Heap→Prop):Prop:=q38 H b o vs∧∀H':Heap,H'=q46 H b o vs→k H'
abbrev Z0:Nat→Int:=fun _=>0
theorem Rest.refl (w:World):Rest w w:=⟨rfl,rfl,rfl⟩
theorem Rest.trans {a b c:World}(h:Rest a b)(k:Rest b c):Rest a c:=⟨k.os.trans h.os,k.tape.trans h.tape,k.output.trans h.output⟩
theorem cell?_cellAt (w:World)(b o:Nat):w.cell? ⟨b,o,none⟩=q02 w.heap b o:=by
 simp only [World.cell?,q02]
 cases w.heap[b]? with
 | none=>rfl
 | some x=>cases x <;> simp
theorem frozen?_frozenAt (w:World)(b o:Nat):w.frozen? ⟨b,o,none⟩=q4f w.heap b o:=rfl
theorem q9g (w:World)(b o:Nat)(v:Value):(w.setCell ⟨b,o,none⟩ v).heap=q97 w.heap b o v:=by
 simp only [World.setCell,q97];rfl
theorem q07 {P:Program}{t:TypeId}{d:TypeDesc}(h:P.underlying t=some d)(w:World):(underlying t).run P w=.ok d w:=by
 simp [underlying,h]
theorem q1s (P:Program)(t:TypeId)(h:P.info? t≠none)(w:World):(sizeOf t).run P w=.ok (P.cellsOf t) w:=by
 cases hi:P.info? t with
 | none=>exact absurd hi h
 | some i=>simp [sizeOf,typeInfo,hi,Program.cellsOf]
theorem info_of_underlying {P:Program}{t:TypeId}{d:TypeDesc}(h:P.underlying t=some d):P.info? t≠none:=by
 intro h0; simp [Program.underlying,h0] at h
theorem q1d {α:Type}(l:List α)(n:Nat):lget l n=l[n]?:=by
 induction l generalizing n with
 | nil=>simp [lget]
 | cons a r ih=>cases n <;> simp [lget,ih]
theorem qtp {α:Type}(l:List α)(n:Nat)(x:α):lset l n x=l.set n x:=by
 induction l generalizing n with
 | nil=>simp [lset]
 | cons a r ih=>cases n <;> simp [lset,ih]
theorem qzh (a b:Value):z4a true a b=a:=by unfold z4a; split <;> rfl
theorem qtq (a b:Value):z4a false a b=b:=by unfold z4a; split <;> rfl
section
variable {X:Ctx} {ρ:Operand→Value} {ev:Operand→Option Value} {pk:Operand→Operand→Operand→Option (Bool × Value × Value)} {c:Option Prop} {G:Prop}
theorem q05 {α:Type}{o:Option α}{K:α→Prop}(h:q0o o K):∃v,o=some v∧K v:=by
 cases o with
 | none=>exact h.elim
 | some v=>exact⟨v,rfl,h⟩
theorem q2y (hev:∀x v,ev x=some v→G→ρ x=v):∀(l:List Operand) (vs:List Value),q45 ev l=some vs→G→l.map ρ=vs
 | [],vs,h,_=>by simp [q45] at h; simp [h]
 | x::r,vs,h,g=>by
  simp only [q45] at h
  cases h1:ev x with
  | none=>simp [h1] at h
  | some v=>cases h2:q45 ev r with
   | none=>simp [h1,h2] at h
   | some vs'=>
    simp only [h1,h2,Option.some.injEq] at h;subst h;simp [hev x v h1 g,q2y hev r vs' h2 g]
theorem qbw (hev:∀x v,ev x=some v→G→ρ x=v):∀(l:List (Nat × Operand)) (vs:List (Nat × Value)),q9f ev l=some vs→G→l.map (fun p=>(p.1,ρ p.2))=vs
 | [],vs,h,_=>by simp [q9f] at h; simp [h]
 | (i,x)::r,vs,h,g=>by
  simp only [q9f] at h
  cases h1:ev x with
  | none=>simp [h1] at h
  | some v=>cases h2:q9f ev r with
   | none=>simp [h1,h2] at h
   | some vs'=>
    simp only [h1,h2,Option.some.injEq] at h;subst h;simp [hev x v h1 g,qbw hev r vs' h2 g]
theorem qpf (hev:∀x v,ev x=some v→G→ρ x=v)(o:Option Operand)(v:Option Value)(h:qzg ev o=some v)(g:G):o.map ρ=v:=by
 cases o with
 | none=>simp [qzg] at h; simp [h]
 | some x=>cases h1:ev x with
  | none=>simp [qzg,h1] at h
  | some u=>simp [qzg,h1] at h; subst h; simp [hev x u h1 g]
theorem qpg {P:Program}(op:BinOp)(t:TypeId)(k:IntKind)(x y:Int){K:Value→Prop}(hg:∀p,gt c p→G→p)(h:z48 op k x y c K) :
  ∃v,K v∧(G→∀w,(Go.binOp op t (.int k x) (.int k y)).run P w=.ok v w):=by
 cases op <;> simp only [z48] at h
 case quo=>exact⟨_,h.2,fun g w=>by simp [Go.binOp,Op.intDiv,hg _ h.1 g]⟩
 case rem=>exact⟨_,h.2,fun g w=>by simp [Go.binOp,Op.intDiv,hg _ h.1 g]⟩
 case shl=>exact⟨_,h.2,fun g w=>by have:=hg _ h.1 g; simp [Go.binOp,Op.shift]; omega⟩
 case shr=>exact⟨_,h.2,fun g w=>by have:=hg _ h.1 g; simp [Go.binOp,Op.shift]; omega⟩
 case eql=>exact⟨_,h,fun _ w=>by simp [Go.binOp,Op.intCmp]; by_cases e:x=y <;> simp [e]⟩
 case neq=>exact⟨_,h,fun _ w=>by simp [Go.binOp,Op.intCmp]; by_cases e:x=y <;> simp [e]⟩
 all_goals exact⟨_,h,fun _ w=>by simp [Go.binOp,Op.intArith,Op.intBits,Op.intCmp,q0g]⟩
theorem qph {P:Program}(op:BinOp)(t:TypeId)(x y:ByteArray){K:Value→Prop}(hg:∀p,gt c p→G→p)(h:z49 op x y c K) :
  ∃v,K v∧(G→∀w,(Go.binOp op t (.string x) (.string y)).run P w=.ok v w):=by
 cases op <;> simp only [z49] at h
 case add=>exact⟨_,h.2,fun g w=>by
  have:=hg _ h.1 g;simp only [Go.binOp,Op.stringOp];rw [if_neg (by omega)]; rfl⟩
 all_goals exact⟨_,h,fun _ w=>by simp [Go.binOp,Op.stringOp]⟩
theorem q9h (op:BinOp)(t:TypeId)(ox oy:Operand)(a b:Value)(P:Program)(w:World)(h1:a≠.nilIface∨b≠.nilIface)(h2:∀x y,a≠.agg x∨b≠.agg y):(eqGuard op t ox oy a b).run P w=.ok () w:=by
 unfold eqGuard
 cases op
 case eql=>
  rw [if_neg (by simp)]
  split
  ·simp at h1
  ·rename_i x y; have:=h2 x y; simp at this
  ·rfl
 case neq=>
  rw [if_neg (by simp)]
  split
  ·simp at h1
  ·rename_i x y; have:=h2 x y; simp at this
  ·rfl
 all_goals rfl
theorem qzi (t:TypeId)(x y:Value):Op.equal t x y=Op.equalIn (9999+1) t x y:=rfl
theorem eqNil_in {P:Program}{t:TypeId}{d:TypeDesc}{x y:Value}{b:Bool}(hd:P.underlying t=some d)(h:qmv (some d) x y=some b)(n:Nat)(w:World) :
  (Op.equalIn (n+1) t x y).run P w=.ok b w∧(x≠.nilIface∨y≠.nilIface)∧(∀u v,x≠.agg u∨y≠.agg v):=by
 unfold qmv at h
 split at h
 all_goals (try cases h)
 all_goals (rename_i hd'; cases hd')
 case h_2=>rename_i a; cases a <;> simp [Op.equalIn,q07 hd]
 case h_3=>rename_i a _ _ _ _; cases a <;> simp [Op.equalIn,q07 hd]
 case h_4=>rename_i a; cases a <;> simp [Op.equalIn,q07 hd]
 all_goals simp [Op.equalIn,q07 hd]
theorem qhk {P:Program}{t:TypeId}{x y:Value}{b:Bool}(h:qmv (P.underlying t) x y=some b)(ox oy:Operand)(op:BinOp)(w:World) :
  (Op.equal t x y).run P w=.ok b w∧(eqGuard op t ox oy x y).run P w=.ok () w:=by
 cases hd:P.underlying t with
 | none=>rw [hd] at h; simp [qmv] at h
 | some d=>
  rw [hd] at h;rw [qzi];obtain⟨h1,h2,h3⟩:=eqNil_in hd h 9999 w;exact⟨h1,q9h _ _ _ _ _ _ _ _ h2 h3⟩
end
section
variable {X:Ctx} {ρ:Operand→Value} {ev:Operand→Option Value} {c:Option Prop} {G:Prop} {P:Program} {K:Value→Prop}
theorem qzj (op:BinOp)(t:TypeId)(x y:Value)(ox oy:Operand)(hg:∀p,gt c p→G→p)(h:binP P op t x y c K) :
  ∃v,K v∧(G→∀w,(do eqGuard op t ox oy x y; Go.binOp op t x y:Sem Value).run P w=.ok v w):=by
 unfold binP at h
 split at h
 ·rename_i k a k' b;have he:∀w,(eqGuard op t ox oy (.int k a) (.int k' b)).run P w=.ok () w:=fun w=>q9h _ _ _ _ _ _ _ _ (by simp) (by simp)
  split at h
  ·rename_i hk; subst hk;obtain⟨v,h1,h2⟩:=qpg (P:=P) op t k a b hg h;exact⟨v,h1,fun g w=>by simp [he,h2 g w]⟩
  ·rename_i hk
   split at h
   ·exact⟨_,h.2,fun g w=>by have:=hg _ h.1 g; simp [he,Go.binOp,Op.shift]; omega⟩
   ·exact⟨_,h.2,fun g w=>by have:=hg _ h.1 g; simp [he,Go.binOp,Op.shift]; omega⟩
   ·exact h.elim
 ·rename_i a b;have he:∀w,(eqGuard op t ox oy (.string a) (.string b)).run P w=.ok () w:=fun w=>q9h _ _ _ _ _ _ _ _ (by simp) (by simp)
  obtain⟨v,h1,h2⟩:=qph (P:=P) op t a b hg h;exact⟨v,h1,fun g w=>by simp [he,h2 g w]⟩
 ·rename_i hi hs
  split at h
  ·rename_i b hb;refine⟨_,h,fun _ w=>?_⟩
   obtain⟨h1,h2⟩:=qhk hb ox oy .eql w;have:(Go.binOp .eql t x y).run P w=.ok (.bool b) w:=by
    unfold qmv at hb
    split at hb <;> cases hb <;> (show Sem.run P (do pure (Value.bool (← Op.equal t _ _))) w=_; simp [h1])
   simp [h2,this]
  ·rename_i b hb;refine⟨_,h,fun _ w=>?_⟩
   obtain⟨h1,h2⟩:=qhk hb ox oy .neq w;have:(Go.binOp .neq t x y).run P w=.ok (.bool (!b)) w:=by
    unfold qmv at hb
    split at hb <;> cases hb <;> (show Sem.run P (do pure (Value.bool (!(← Op.equal t _ _)))) w=_; simp [h1])
   simp [h2,this]
  ·obtain⟨b,h1,h2⟩:=h;exact⟨_,h2,fun g w=>hg _ h1 g ox oy w⟩
  ·exact h.elim
theorem z4g (op:UnOp)(x:Value)(h:unP op x K):∃v,K v∧∀w,(Op.unary op x).run P w=.ok v w:=by
 unfold unP at h
 split at h
 ·exact⟨_,h,fun w=>by simp [Op.unary,Op.intArith]⟩
 ·exact⟨_,h,fun w=>by simp [Op.unary,Op.intBits,q0g]⟩
 ·exact⟨_,h,fun w=>by simp [Op.unary]⟩
 ·exact h.elim
theorem q2f (k:IntKind)(n:Int)(y:Nat)(code:BoundsCode)(w:World)(h:0≤n∧n≤(y:Int)):(Instr.sliceBound (.int k n) y code).run P w=.ok n.toNat w:=by
 simp [Instr.sliceBound,asIntOf,h]
theorem q6g (isS:Bool)(len cap:Nat)(lo hi:Option Value)(l h:Int)(w:World)
  (hlo:lo=none∧l=0∨∃k,lo=some (.int k l)) (hhi:hi=none∧h=(len:Int)∨∃k,hi=some (.int k h))
  (hb:0≤l∧l≤h∧h≤(cap:Int)):(Instr.sliceBounds isS len cap lo hi none).run P w=.ok (l.toNat,h.toNat,cap) w:=by
 unfold Instr.sliceBounds
 rcases hhi with ⟨rfl,rfl⟩|⟨k,rfl⟩ <;> rcases hlo with ⟨rfl,rfl⟩|⟨k',rfl⟩
 ·simp
 ·simp [q2f k' l len _ w ⟨hb.1,hb.2.1⟩]
 ·simp [q2f k h cap _ w ⟨by omega,hb.2.2⟩]
 ·have:=q2f (P:=P) k' l h.toNat .sliceB w ⟨hb.1,by omega⟩;simp [q2f k h cap _ w ⟨by omega,hb.2.2⟩,this]
theorem q78 {x:Value}{Kn:Int→Prop}(h:q32 x Kn):∃k n,x=.int k n∧Kn n:=by
 unfold q32 at h
 split at h
 ·exact⟨_,_,rfl,h⟩
 ·exact h.elim
theorem q9i {α:Type}{lo hi:Option Value}{len:Int}{go:Int→Int→Prop}
  (hx:match lo,hi with
   | some l,some h=>q32 l fun l=>q32 h fun h=>go l h
   | some l,none=>q32 l fun l=>go l len
   | none,some h=>q32 h fun h=>go 0 h
   | none,none=>go 0 len) (_:α) :
  ∃l h,go l h∧(lo=none∧l=0∨∃k,lo=some (.int k l))∧(hi=none∧h=len∨∃k,hi=some (.int k h)):=by
 cases lo with
 | none=>cases hi with
  | none=>exact⟨0,len,hx,.inl ⟨rfl,rfl⟩,.inl ⟨rfl,rfl⟩⟩
  | some b=>
   obtain⟨k,n,hb,hx⟩:=q78 hx;exact⟨0,n,hx,.inl ⟨rfl,rfl⟩,.inr ⟨k,by rw [hb]⟩⟩
 | some a=>cases hi with
  | none=>
   obtain⟨k,n,ha,hx⟩:=q78 hx;exact⟨n,len,hx,.inr ⟨k,by rw [ha]⟩,.inl ⟨rfl,rfl⟩⟩
  | some b=>
   obtain⟨k,n,ha,hx⟩:=q78 hx;obtain⟨k',n',hb,hx⟩:=q78 hx;exact⟨n,n',hx,.inr ⟨k,by rw [ha]⟩,.inr ⟨k',by rw [hb]⟩⟩
theorem q4y {t:TypeId}{q:Prop}(h:qmw P t q):P.info? t≠none∧P.cellsOf t≠0∧q:=by
 unfold qmw at h
 split at h
 ·exact h.elim
 ·rename_i n hn;refine⟨fun h0=>?_,by omega,h⟩
  simp [Program.cellsOf,h0] at hn
theorem qpi (t:TypeId)(x:Value)(lo hi:Option Value)(hg:∀p,gt c p→G→p)(h:z4b P t x lo hi c K) :
  ∃v,K v∧(G→∀w,(Instr.sliceAt t x lo hi none).run P w=.ok v w):=by
 unfold z4b at h
 split at h
 ·rename_i s ht;obtain⟨l,h',⟨h1,h2⟩,hl,hh⟩:=q9i h ();refine⟨_,h2,fun g w=>?_⟩
  have hb:=q6g (P:=P) false s.size s.size lo hi l h' w hl hh (hg _ h1 g);simp [Instr.sliceAt,Instr.slice,q07 ht,hb]
 ·rename_i e a len cap ht;obtain⟨hinf,hz,h⟩:=q4y h;obtain⟨l,h',⟨h1,h2⟩,hl,hh⟩:=q9i h ();refine⟨_,h2,fun g w=>?_⟩
  have hb:=q6g (P:=P) true len cap lo hi l h' w hl hh (hg _ h1 g);simp [Instr.sliceAt,Instr.slice,q07 ht,hb,q1s P e hinf,slB]
 ·rename_i n e a ht;obtain⟨hinf,hz,h⟩:=q4y h;obtain⟨l,h',⟨h1,h2⟩,hl,hh⟩:=q9i h ();refine⟨_,h2,fun g w=>?_⟩
  have hb:=q6g (P:=P) false n n lo hi l h' w hl hh (hg _ h1 g);simp [Instr.sliceAt,Instr.sureAddr,q07 ht,hb,q1s P e hinf,slB]
  split <;> rfl
 ·exact h.elim
theorem qmz (t:TypeId)(x l h m:Value)(hg:∀p,gt c p→G→p)(hs:qtn P t x l h m c K) :
  ∃v,K v∧(G→∀w,(Instr.sliceAt t x (some l) (some h) (some m)).run P w=.ok v w):=by
 unfold qtn at hs
 split at hs
 ·rename_i e a len cap k1 l k2 h k3 m ht;obtain⟨hinf,hz,hs⟩:=q4y hs;refine⟨_,hs.2,fun g w=>?_⟩
  obtain⟨b1,b2,b3,b4⟩:=hg _ hs.1 g;have r1:=q2f (P:=P) k3 m cap .slice3Acap w ⟨by omega,b4⟩;have r2:=q2f (P:=P) k2 h m.toNat .slice3B w ⟨by omega,by omega⟩;have r3:=q2f (P:=P) k1 l h.toNat .slice3C w ⟨b1,by omega⟩;simp [Instr.sliceAt,Instr.slice,Instr.sliceBounds,q07 ht,r1,r2,r3,q1s P e hinf,slB]
 ·exact hs.elim
theorem z4h {l:Leaf}{Q:Value→Prop}(h:l.ex Q):∃v,Q v:=by
 cases l <;> simp only [Leaf.ex] at h
 case slice=>obtain⟨a,n,c,h⟩:=h; exact⟨_,h⟩
 case fnv=>obtain⟨a,c,h⟩:=h; exact⟨_,h⟩
 case adr=>obtain⟨a,c,h⟩:=h; exact⟨_,h⟩
 all_goals (obtain⟨a,h⟩:=h; exact⟨_,h⟩)
theorem qhl:∀{ls:List Leaf} {Q:List Value→Prop},exLs ls Q→∃vs,Q vs
 | [],_,h=>⟨[],h⟩
 | .vec k n::r,_,h=>by
  obtain⟨f,hf⟩:=h;obtain⟨vs,hvs⟩:=qhl (ls:=r) hf;exact⟨_,hvs⟩
 | .int k::r,_,h|.bool::r,_,h|.str::r,_,h|.ptr::r,_,h|.slice::r,_,h|.map::r,_,h|.raw::r,_,h|.fnv::r,_,h|.adr::r,_,h=>by
  obtain⟨v,hv⟩:=z4h h;obtain⟨vs,hvs⟩:=qhl (ls:=r) hv;exact⟨_,hvs⟩
theorem qpj {s:Sh}{Q:Value→Prop}(h:s.ex Q):∃v,Q v:=by
 cases s with
 | one l=>exact z4h h
 | agg ls=>obtain⟨vs,h⟩:=qhl (ls:=ls) h; exact⟨_,h⟩
theorem qx5:∀{ls:List Sh} {Q:List Value→Prop},qtm ls Q→∃vs,Q vs
 | [],_,h=>⟨[],h⟩
 | l::r,_,h=>by
  obtain⟨v,hv⟩:=qpj (s:=l) h;obtain⟨vs,hvs⟩:=qx5 (ls:=r) hv;exact⟨_,hvs⟩
theorem qcu {ls:List Sh}{Q:Value→Prop}(h:qgh ls Q):∃v,Q v:=by
 match ls,h with
 | [],h=>exact⟨_,h⟩
 | [s],h=>exact qpj (s:=s) h
 | s::t::r,h=>
  have h':qtm (s::t::r) fun vs=>Q (.tuple ⟨vs⟩):=h
  obtain⟨vs,h⟩:=qx5 h'; exact⟨_,h⟩
theorem qhm {t:TypeId}{Q:Value→Prop}(h:exT P t Q):∃v,Q v:=by
 unfold exT at h
 split at h
 ·exact qpj h
 ·exact h.elim
theorem qtr (s:ByteArray)(n:Int)(h:0≤n∧n < (s.size:Int)):∃b,(if 0≤n then s[n.toNat]? else none)=some b∧(b.toNat:Int)=bAt s n.toNat:=by
 have hn:n.toNat < s.size:=by omega
 refine⟨s[n.toNat],?_,?_⟩
 ·rw [if_pos h.1]; exact getElem?_pos s n.toNat hn
 ·unfold bAt;have hd:n.toNat < s.data.size:=hn;rw [Array.getElem?_eq_getElem hd];rfl
theorem qpk (t:TypeId)(x i:Value)(hg:∀p,gt c p→G→p)(h:z4c P t x i c K) :
  ∃v,K v∧(G→∀w,(Instr.index t x i).run P w=.ok v w):=by
 unfold z4c at h
 split at h
 ·rename_i s k n ht;refine⟨_,h.2,fun g w=>?_⟩
  obtain⟨b,h1,h2⟩:=qtr s n (hg _ h.1 g);simp only [Instr.index,asIntOf,Sem.run_bind,Sem.run_pure,Result.andThen_ok,q07 ht,h1,h2]
 ·split at h
  ·obtain⟨v,h1,h2⟩:=qpj h;exact⟨v,h2,fun g w=>hg _ h1 g w⟩
  ·exact h.elim
 ·exact h.elim
theorem qcv (b o n:Nat):(⟨b,o,none⟩:Addr).add n=⟨b,o+n,none⟩:=by
 unfold Addr.add
 split
 ·rename_i h; simp [h]
 ·rfl
theorem qgi (t:TypeId)(x i:Value)(hg:∀p,gt c p→G→p)(h:qej P t x i c K) :
  ∃v,K v∧(G→∀w,(Instr.indexAt t x i).run P w=.ok v w):=by
 unfold qej at h
 split at h
 ·rename_i e a len _ k n ht;obtain⟨hinf,hz,h1,b,o,h2,h3⟩:=q4y h;refine⟨_,h3,fun g w=>?_⟩
  have hb:=hg _ h1 g;have ha:=hg _ h2 g;subst ha;simp [Instr.indexAt,asIntOf,q07 ht,hb,q1s P e hinf,qcv,qpd]
 ·rename_i len e b o k n ht;obtain⟨hinf,hz,h⟩:=q4y h;refine⟨_,h.2,fun g w=>?_⟩
  have hb:=hg _ h.1 g;simp [Instr.indexAt,Instr.sureAddr,asIntOf,q07 ht,hb,q1s P e hinf,qcv,qpd]
 ·exact h.elim
theorem qgj (t:TypeId)(x:Value)(f:Nat)(h:qek P t x f K) :
  ∃v,K v∧∀w,(Instr.fieldAt t x f).run P w=.ok v w:=by
 unfold qek at h
 split at h
 ·rename_i fs b o ht
  split at h
  ·rename_i fd hf;obtain⟨hinf,hz,h⟩:=q4y h;refine⟨_,h,fun w=>?_⟩
   rw [q1d] at hf;have hf':fs[f]?=some fd:=by simpa using hf
   simp [Instr.fieldAt,q07 ht,hf',Instr.sureAddr,fieldPlace,q1s P _ hinf,hz,qcv]
  ·exact h.elim
 ·exact h.elim
theorem qpl (t:TypeId)(w:World)(h:P.underlying t≠none):(isAgg t).run P w=.ok (aggT P t) w:=by
 cases hd:P.underlying t with
 | none=>exact absurd hd h
 | some d=>cases d <;> simp [isAgg,q07 hd,aggT,hd]
theorem qhn {t:TypeId}(h:aggT P t=true):P.underlying t≠none:=by
 intro h0; simp [aggT,h0] at h
end
section
variable {X:Ctx} {ρ:Operand→Value} {ev:Operand→Option Value} {c:Option Prop} {G:Prop} {P:Program} {K:Value→Prop}
theorem qan {t:TypeId}{z:List Value}(h:qpe P t=some z):∃v,v.cells.toList=z∧(∀w,(zeroValue t).run P w=.ok v w)∧P.info? t≠none:=by
 unfold qpe at h
 split at h
 ·rename_i i hi
  split at h
  ·rename_i v hv
   cases h
   exact⟨v,rfl,fun w=>by simp [zeroValue,typeInfo,hi,hv],by simp [hi]⟩
  ·cases h
 ·cases h
theorem qcw (off:Nat):∀(l:List Value) (k:Nat) (cells:Array Value),
  ((l.zipIdx k).foldl (fun cs (x:Value × Nat)=>cs.setIfInBounds (off+x.2) x.1) cells).toList=qgv cells.toList (off+k) l
 | [],_,_=>rfl
 | v::r,k,cells=>by
  simp only [List.zipIdx_cons,List.foldl_cons,qgv];rw [qcw off r (k+1)];simp [qtp,za0]
theorem qao (place:Nat→Option (Nat × Nat)):∀(parts:List (Nat × Value)) (cells:Array Value) (l:List Value),
  qto place cells.toList parts=some l→Instr.fill place cells parts=some ⟨l⟩
 | [],cells,l,h=>by simp [qto] at h; subst h; simp [Instr.fill]
 | (i,v)::rest,cells,l,h=>by
  simp only [qto] at h;simp only [Instr.fill]
  cases hp:place i with
  | none=>simp [hp] at h
  | some p=>
   obtain⟨off,size⟩:=p;simp only [hp] at h ⊢
   split at h
   ·rename_i hc;have h1:v.cells.size=size:=by simpa using hc.1
    have h2:off+v.cells.size≤cells.size:=by have:=hc.2; simp at this; omega
    rw [if_neg (by simp; exact⟨h1,by omega⟩)];have:=qcw off v.cells.toList 0 cells;refine qao place rest _ l ?_;rw [← h];congr 1;rw [← Array.foldl_toList,Array.toList_zipIdx];simpa using this
   ·cases h
theorem qkv:∀(fs:List Field) (w:World),qmx P fs=true→
  (fs.mapM (m:=Sem) fun f=>do pure (f.offset,← sizeOf f.type)).run P w=.ok (fs.map fun f=>(f.offset,P.cellsOf f.type)) w
 | [],w,_=>by simp
 | f::r,w,h=>by
  simp only [qmx,z8w] at h;have hi:P.info? f.type≠none:=by intro h0; simp [h0] at h
  have ih:=qkv r w h.2;simp only [bind_pure_comp] at ih;simp [List.mapM_cons,q1s P _ hi,ih]
theorem qpm (t:TypeId)(parts:List (Nat × Value))(l:List Value)(h:z4e P t parts=some l)(w:World) :
  (Instr.build t parts.toArray).run P w=.ok (.agg ⟨l⟩) w:=by
 unfold z4e at h
 split at h
 ·rename_i z fs hz ht;obtain⟨v,hv,hrun,_⟩:=qan hz
  split at h
  ·rename_i ha;have hp:=qkv (P:=P) fs.toList w ha;have hf:Instr.fill (fun x=>(fs.map fun f=>(f.offset,P.cellsOf f.type))[x]?) v.cells parts=some ⟨l⟩:=by
    have:=qao (offOf P fs.toList) parts v.cells l (by rw [hv]; exact h);rw [← this];congr 1;funext i;simp only [offOf,q1d]
    cases hfi:fs.toList[i]? with
    | none=>simp at hfi ⊢; exact hfi
    | some f=>have hfi':fs[i]?=some f:=by simpa using hfi
              simp [hfi']
   have hp':(fs.mapM (m:=Sem) fun f=>do pure (f.offset,← sizeOf f.type)).run P w=.ok (fs.map fun f=>(f.offset,P.cellsOf f.type)) w:=by
    rw [Array.mapM_eq_mapM_toList];simp only [Sem.run_map,hp,Result.andThen_ok];congr 1;apply Array.ext';simp
   simp only [Instr.build,Sem.run_bind,hrun,Result.andThen_ok,q07 ht,hp'];simp only [hf,Sem.run_pure]
  ·cases h
 ·rename_i z n e hz ht;obtain⟨v,hv,hrun,_⟩:=qan hz
  split at h
  ·rename_i i hi;have hf:=qao _ parts v.cells l (by rw [hv]; exact h);simp only [Instr.build,Sem.run_bind,hrun,Result.andThen_ok,q07 ht,q1s P e (by simp [hi])];simp [hf]
  ·cases h
 ·cases h
theorem qkb (o:Oper)(x:Operand)(hop:o.op=.nilCheck x)(hg:∀p,gt c p→G→p)(h:qcs (ρ x) c K) :
  ∃v,K v∧(G→∀w,(execOp ρ o).run P w=.ok (.value v) w):=by
 unfold qcs at h
 split at h
 ·rename_i a ha;have key:∃p,gt c p∧(p→a=some ⟨adrB a,adrO a,none⟩)∧K (.pointer (some ⟨adrB a,adrO a,none⟩)):=by
   cases c with
   | none=>exact⟨_,(z4d.1 h).1,id,(z4d.1 h).2⟩
   | some c=>exact⟨isA a,h.1,isA_iff.1,h.2⟩
  obtain⟨p,h1,h3,h2⟩:=key;refine⟨_,h2,fun g w=>?_⟩
  have:=h3 (hg _ h1 g);generalize adrB a=b at *;generalize adrO a=o' at *;subst this;simp [execOp,hop,ha]
 ·rename_i f a b ha; exact⟨_,h,fun _ w=>by simp [execOp,hop,ha]⟩
 ·rename_i f a b ha; exact⟨_,h,fun _ w=>by simp [execOp,hop,ha]⟩
 ·exact h.elim
theorem qts (s d:TypeId)(x:Value)(h:convP P s d x K):∃v,K v∧∀w,(convert s d x).run P w=.ok v w:=by
 unfold convP at h
 split at h
 ·rename_i ds k k' n hs hd;exact⟨_,h,fun w=>by cases ds <;> simp [convert,q07 hs,q07 hd,Conv.intToInt]⟩
 ·rename_i ds b hs hd;exact⟨_,h,fun w=>by cases ds <;> simp [convert,q07 hs,q07 hd]⟩
 ·exact h.elim
theorem qzk (t:TypeId)(x:Value)(ts:Array TypeId)(t':TypeId)(args:Array Value)(ht0:ts[0]?=some t)(ha0:args[0]?=some x)(h:lenP P t x K) :
  ∃v,K v∧∀w,(Builtin.len_ ts t' args).run P w=.ok v w:=by
 unfold lenP at h
 split at h
 ·rename_i s ht; exact⟨_,h,fun w=>by simp [Builtin.len_,ht0,ha0,q07 ht,goInt]⟩
 ·rename_i e a n cp ht; exact⟨_,h,fun w=>by simp [Builtin.len_,ht0,ha0,q07 ht,goInt]⟩
 ·rename_i x n e ht; exact⟨_,h,fun w=>by cases x <;> simp [Builtin.len_,ht0,ha0,q07 ht,goInt]⟩
 ·exact h.elim
theorem qn0 (vs:List Value)(ts:Array TypeId)(t:TypeId)(h:mmP true vs K):∃v,K v∧∀w,(Builtin.max_ ts t ⟨vs⟩).run P w=.ok v w:=by
 unfold mmP at h
 split at h
 ·exact⟨_,h,fun w=>by simp [Builtin.max_,Builtin.max2]⟩
 ·exact⟨_,h,fun w=>by simp [Builtin.max_,Builtin.max2]⟩
 ·exact h.elim
theorem qn1 (vs:List Value)(ts:Array TypeId)(t:TypeId)(h:mmP false vs K):∃v,K v∧∀w,(Builtin.min_ ts t ⟨vs⟩).run P w=.ok v w:=by
 unfold mmP at h
 split at h
 ·exact⟨_,h,fun w=>by simp [Builtin.min_,Builtin.min2]⟩
 ·exact⟨_,h,fun w=>by simp [Builtin.min_,Builtin.min2]⟩
 ·exact h.elim
theorem qzl (op:BinOp)(t:TypeId)(x y:Value)(ox oy:Operand)(hg:∀p,gt c p→G→p)(h:binQ P op t x y c K) :
  ∃v,K v∧(G→∀w,(do eqGuard op t ox oy x y; Go.binOp op t x y:Sem Value).run P w=.ok v w):=by
 unfold binQ at h
 split at h
 ·obtain⟨b,h1,h2⟩:=h;exact⟨_,h2,fun g w=>hg _ h1 g ox oy w⟩
 ·exact qzj op t x y ox oy hg h
theorem qkw (o:Oper){pk:Operand→Operand→Operand→Option (Bool × Value × Value)}(hg:∀p,gt c p→G→p)(hev:∀x v,ev x=some v→G→ρ x=v)
  (hpk:∀a b d r,pk a b d=some r→G→ρ a=.bool r.1∧(r.1=true→ρ b=r.2.1)∧(r.1=false→ρ d=r.2.2)) (hP:P=X.P)
  (h:qx3 X ev pk c o.op K):∃v,K v∧(G→∀w,(execOp ρ o).run P w=.ok (.value v) w):=by
 subst hP
 cases hop:o.op <;> rw [hop] at h <;> simp only [qx3] at h <;> (try exact h.elim)
 case move x=>obtain⟨v,hv,h⟩:=q05 h; exact⟨v,h,fun g w=>by simp [execOp,hop,hev x v hv g]⟩
 case assign x=>obtain⟨v,hv,h⟩:=q05 h; exact⟨v,h,fun g w=>by simp [execOp,hop,hev x v hv g]⟩
 case pick a b d=>
  obtain⟨r,hr,h⟩:=q05 h;refine⟨_,h,fun g w=>?_⟩
  obtain⟨h1,h2,h3⟩:=hpk a b d r hr g;obtain⟨q,x,y⟩:=r
  cases q
  ·simp [execOp,hop,h1,asBool,h3 rfl,qtq]
  ·simp [execOp,hop,h1,asBool,h2 rfl,qzh]
 case nilCheck x=>
  obtain⟨v,hv,h⟩:=q05 h
  by_cases g:G
  ·have hx:=hev x v hv g;obtain⟨u,h1,h2⟩:=qkb (ρ:=ρ) (K:=K) (c:=c) (P:=X.P) o x hop hg (by rw [hx]; exact h);exact⟨u,h1,h2⟩
  ·unfold qcs at h
   split at h
   ·cases c with
    | none=>exact⟨_,(z4d.1 h).2,fun g'=>absurd g' g⟩
    | some c=>exact⟨_,h.2,fun g'=>absurd g' g⟩
   ·exact⟨_,h,fun g'=>absurd g' g⟩
   ·exact⟨_,h,fun g'=>absurd g' g⟩
   ·exact h.elim
 case binOp op t x y yt=>
  obtain⟨a,ha,h⟩:=q05 h;obtain⟨b,hb,h⟩:=q05 h;obtain⟨v,h1,h2⟩:=qzl op t a b x y hg h;refine⟨v,h1,fun g w=>?_⟩
  have:=h2 g w;simp only [Sem.run_bind] at this;simp only [execOp,hop,hev x a ha g,hev y b hb g,Sem.run_bind,Sem.run_pure];generalize (eqGuard op t x y a b).run X.P w=r at this ⊢
  cases r with
  | halt hh w'=>simp at this
  | ok u w'=>
   simp only [Result.andThen_ok] at this ⊢;rw [this]; rfl
 case unOp op t x=>
  obtain⟨a,ha,h⟩:=q05 h;obtain⟨v,h1,h2⟩:=z4g (P:=X.P) op a h;exact⟨v,h1,fun g w=>by simp [execOp,hop,hev x a ha g,h2 w]⟩
 case convert s d x=>
  obtain⟨a,ha,h⟩:=q05 h;obtain⟨v,h1,h2⟩:=qts s d a h;exact⟨v,h1,fun g w=>by simp [execOp,hop,hev x a ha g,h2 w]⟩
 case fieldAddr t x f=>
  obtain⟨a,ha,h⟩:=q05 h;obtain⟨v,h1,h2⟩:=qgj t a f h;exact⟨v,h1,fun g w=>by simp [execOp,hop,hev x a ha g,h2 w]⟩
 case field t x f=>
  obtain⟨a,ha,h⟩:=q05 h;unfold fieldP at h
  split at h
  ·split at h
   ·split at h
    ·obtain⟨v,h1,h2⟩:=qpj h;exact⟨v,h2,fun g w=>by simp [execOp,hop,hev x a ha g,hg _ h1 g w]⟩
    ·exact h.elim
   ·exact h.elim
  ·exact h.elim
 case indexAddr t x i=>
  obtain⟨a,ha,h⟩:=q05 h;obtain⟨b,hb,h⟩:=q05 h;obtain⟨v,h1,h2⟩:=qgi t a b hg h;exact⟨v,h1,fun g w=>by simp [execOp,hop,hev x a ha g,hev i b hb g,h2 g w]⟩
 case index t x i=>
  obtain⟨a,ha,h⟩:=q05 h;obtain⟨b,hb,h⟩:=q05 h;obtain⟨v,h1,h2⟩:=qpk t a b hg h;exact⟨v,h1,fun g w=>by simp [execOp,hop,hev x a ha g,hev i b hb g,h2 g w]⟩
 case extract t i=>
  obtain⟨a,ha,h⟩:=q05 h
  cases a <;> simp only at h
  case tuple vs=>
   obtain⟨v,hv,h⟩:=q05 h;rw [q1d] at hv;have hv':vs[i]?=some v:=by simpa using hv
   exact⟨v,h,fun g w=>by simp [execOp,hop,hev t _ ha g,Instr.extract,hv']⟩
 case slice t x lo hi mx=>
  cases mx with
  | some m=>
   cases lo with
   | none=>exact h.elim
   | some lo=>cases hi with
    | none=>exact h.elim
    | some hi=>
     obtain⟨a,ha,h⟩:=q05 h;obtain⟨l,hl,h⟩:=q05 h;obtain⟨u,hu,h⟩:=q05 h;obtain⟨q,hq,h⟩:=q05 h;obtain⟨v,h1,h2⟩:=qmz t a l u q hg h;exact⟨v,h1,fun g w=>by simp [execOp,hop,hev x a ha g,hev lo l hl g,hev hi u hu g,hev m q hq g,h2 g w]⟩
  | none=>
   obtain⟨a,ha,h⟩:=q05 h;obtain⟨l,hl,h⟩:=q05 h;obtain⟨u,hu,h⟩:=q05 h;obtain⟨v,h1,h2⟩:=qpi t a l u hg h;exact⟨v,h1,fun g w=>by simp [execOp,hop,hev x a ha g,qpf hev lo l hl g,qpf hev hi u hu g,h2 g w]⟩
 case build t ps=>
  obtain⟨vs,hvs,h⟩:=q05 h;obtain⟨l,hl,h⟩:=q05 h;refine⟨_,h,fun g w=>?_⟩
  have hm:=qbw hev ps.toList vs hvs g;have hb:=qpm (P:=X.P) t vs l hl w;have he:(ps.map fun (i,x)=>(i,ρ x))=vs.toArray:=by
   apply Array.ext'; simp [← hm]
  simp only [execOp,hop,he,Sem.run_bind,hb,Result.andThen_ok,Sem.run_pure]
 case makeInterface t x=>
  obtain⟨a,ha,h⟩:=q05 h
  split at h
  ·exact h.elim
  ·rename_i d hd ht;refine⟨_,h,fun g w=>?_⟩
   have:∀m,d≠.interface m:=fun m he=>hd m he
   cases d <;> first|(exact absurd rfl (this _))|simp [execOp,hop,hev x a ha g,Instr.makeInterface,q07 ht]
  ·exact h.elim
 case typeAssert x t u ok=>
  cases ok with
  | false=>exact h.elim
  | true=>
   obtain⟨a,ha,h⟩:=q05 h;obtain⟨y,there,h1,h2⟩:=qhm h;exact⟨_,h2,fun g w=>by simp [execOp,hop,hev x a ha g,hg _ h1 g w]⟩
 case makeFunc fn a b=>
  obtain⟨va,ha,h⟩:=q05 h;obtain⟨vb,hb,h⟩:=q05 h;refine⟨_,h,fun g w=>?_⟩
  have e1:a.map ρ=⟨va⟩:=by apply Array.ext'; simp [q2y hev _ _ ha g]
  have e2:b.map ρ=⟨vb⟩:=by apply Array.ext'; simp [q2y hev _ _ hb g]
  simp [execOp,hop,e1,e2,Instr.makeFunc]
 case call cl=>
  split at h
  ·rename_i t ts hcl hts;obtain⟨vs,hvs,h⟩:=q05 h
   split at h
   ·rename_i v r;have ht0:cl.argTypes[0]?=some t:=by rw [← Array.getElem?_toList,hts]; rfl
    obtain⟨u,h1,h2⟩:=qzk t v cl.argTypes o.type ⟨v::r⟩ ht0 (by simp) h;refine⟨u,h1,fun g w=>?_⟩
    have e1:cl.args.map ρ=⟨v::r⟩:=by apply Array.ext'; simp [q2y hev _ _ hvs g]
    simp [execOp,hop,resolve,hcl,e1,invoke,builtin,h2 w]
   ·exact h.elim
  ·rename_i hcl;obtain⟨vs,hvs,h⟩:=q05 h;obtain⟨u,h1,h2⟩:=qn0 (P:=X.P) vs cl.argTypes o.type h;refine⟨u,h1,fun g w=>?_⟩
   have e1:cl.args.map ρ=⟨vs⟩:=by apply Array.ext'; simp [q2y hev _ _ hvs g]
   simp [execOp,hop,resolve,hcl,e1,invoke,builtin,h2 w]
  ·rename_i hcl;obtain⟨vs,hvs,h⟩:=q05 h;obtain⟨u,h1,h2⟩:=qn1 (P:=X.P) vs cl.argTypes o.type h;refine⟨u,h1,fun g w=>?_⟩
   have e1:cl.args.map ρ=⟨vs⟩:=by apply Array.ext'; simp [q2y hev _ _ hvs g]
   simp [execOp,hop,resolve,hcl,e1,invoke,builtin,h2 w]
  ·exact h.elim
end
def Good (P:Program)(w:World)(KP:Value→Heap→Prop)(K:Value→Heap→Prop):Result Next→Prop
 | .ok (.value v) w'=>Rest w w'∧K v w'.heap
 | .ok .skip w'=>Rest w w'∧K undef w'.heap
 | .ok (.enter f args) w'=>w'=w∧Calls P f args w (FinP w K KP)
 | .ok (.round l f tmps assign body) w'=>w'=w∧RoundIn Fence.wide 0 P l f tmps assign body w (FinP w K KP)
 | .halt (.panic v) w'=>Rest w w'∧KP v w'.heap
 | _=>False
theorem FinP.mono {w:World}{K K' KP KP':Value→Heap→Prop}(hk:∀v H,K v H→K' v H)(hp:∀v H,KP v H→KP' v H){e:Ending}{w':World}(h:FinP w K KP e w'):FinP w K' KP' e w':=by
 cases e <;> simp only [FinP] at h ⊢
 case returned v=>exact⟨h.1,hk _ _ h.2⟩
 case panicked chain=>obtain⟨v,h1,h2,h3⟩:=h; exact⟨v,h1,h2,hp _ _ h3⟩
theorem Fin.toP {w:World}{K KP:Value→Heap→Prop}{e:Ending}{w':World}(h:Fin w K e w'):FinP w K KP e w':=by
 cases e <;> simp only [Fin] at h
 exact h
theorem FinP.fin {w:World}{K:Value→Heap→Prop}{e:Ending}{w':World}(h:FinP w K (fun _ _=>False) e w'):Fin w K e w':=by
 cases e <;> simp only [FinP] at h
 case returned v=>exact h
 case panicked chain=>obtain⟨v,_,_,h⟩:=h; exact h.elim
theorem Good.mono2 {P:Program}{w:World}{K K' KP KP':Value→Heap→Prop}{r:Result Next}(h:Good P w KP K r)(hk:∀v H,K v H→K' v H)(hp:∀v H,KP v H→KP' v H):Good P w KP' K' r:=by
 cases r with
 | halt h' w'=>
  cases h' <;> simp only [Good] at h ⊢
  exact⟨h.1,hp _ _ h.2⟩
 | ok n w'=>
  cases n <;> simp only [Good] at h ⊢
  case value v=>exact⟨h.1,hk _ _ h.2⟩
  case skip=>exact⟨h.1,hk _ _ h.2⟩
  case enter f args=>exact⟨h.1,h.2.mono fun e w'' he=>he.mono hk hp⟩
  case round l f tmps assign body=>exact⟨h.1,h.2.mono fun e w'' he=>he.mono hk hp⟩
theorem Good.mono {P:Program}{w:World}{KP K K':Value→Heap→Prop}{r:Result Next}(h:Good P w KP K r)(hk:∀v H,K v H→K' v H):Good P w KP K' r:=h.mono2 hk fun _ _ h=>h
section
variable {X:Ctx} {ρ:Operand→Value} {ev:Operand→Option Value} {c:Option Prop} {G:Prop}
theorem q5n {P:Program}{f:FuncId}(hb:q3b P f)(args:Array Value)(w:World):(callFunc f args).run P w=.ok (.enter f args) w:=by
 obtain⟨fn,h1,h2,h3⟩:=hb;simp only [callFunc,Sem.run_bind,run_program,Result.andThen_ok,h1,h3,h2,zaf,if_false,Sem.run_pure]
theorem qcx {P:Program}{w:World}{b o:Nat}{v:Value}(h:q02 w.heap b o=some v):(load ⟨b,o,none⟩).run P w=.ok v w:=by
 simp [run_load,cell?_cellAt,h]
theorem qn2 {H:Heap}{b o:Nat}{v:Value}{r:List Value}(h:q03 H b o (v::r)):q02 H b o=some v∧q03 H b (o+1) r:=by
 cases r with
 | nil=>exact⟨h,trivial⟩
 | cons u r=>exact h
theorem q7q {P:Program}{w:World}{b:Nat}:∀(l:List Value) (o i:Nat) (acc:Array Value),q03 w.heap b (o+i) l→
  (loadCellsFrom ⟨b,o,none⟩ i l.length acc).run P w=.ok (acc++l.toArray) w
 | [],o,i,acc,_=>by simp [loadCellsFrom]
 | v::r,o,i,acc,h=>by
  obtain⟨h1,h2⟩:=qn2 h;have ih:=q7q (P:=P) r o (i+1) (acc.push v) (by rw [← za0]; exact h2);simp only [z8y,loadCellsFrom,Sem.run_bind,qcv,qcx h1,Result.andThen_ok,ih];simp
theorem qbl {P:Program}{t:TypeId}{Q:Value→Prop}(h:exT P t Q):P.underlying t≠none:=by
 intro h0;unfold exT q6f at h;simp [qcr,h0] at h
theorem qbm {P:Program}{w:World}{t:TypeId}{b off:Nat}{us:List Value}(hag:aggT P t=true)(hl:us.length=P.cellsOf t)(h:q03 w.heap b off us) :
  (Instr.loadAt t (.pointer (some ⟨b,off,none⟩))).run P w=.ok (.agg ⟨us⟩) w:=by
 have hu:=qhn hag;have hinf:P.info? t≠none:=by
  cases hd:P.underlying t with
  | none=>exact absurd hd hu
  | some d=>exact info_of_underlying hd
 have hr:=q7q (P:=P) (w:=w) (b:=b) us off 0 #[] (by simpa using h);simp only [Instr.loadAt,Instr.sureAddr,Sem.run_bind,Sem.run_pure,Result.andThen_ok,loadVar,qpl _ w hu,hag,if_true,q1s P t hinf,loadCells,← hl,hr];simp
theorem qbn {P:Program}{w:World}{t:TypeId}{b off:Nat}{u:Value}(hu:P.underlying t≠none)(hag:aggT P t=false)(h:q02 w.heap b off=some u) :
  (Instr.loadAt t (.pointer (some ⟨b,off,none⟩))).run P w=.ok u w:=by
 simp only [Instr.loadAt,Instr.sureAddr,Sem.run_bind,Sem.run_pure,Result.andThen_ok,loadVar,qpl _ w hu,hag,zaf,if_false,qcx h]
theorem q2z {P:Program}{w:World}{KP:Value→Heap→Prop}{v:Value}{r:Result Next}(h:r=.ok (.value v) w):Good P w KP (fun v' H'=>v'=v∧H'=w.heap) r:=by
 subst h; exact⟨Rest.refl w,rfl,rfl⟩
theorem qkx {n:Nat}{l:List Nat}{q:Prop}(h:if memN n l=false then False else q):memN n l=true∧q:=by
 split at h
 ·exact h.elim
 ·rename_i hn; exact⟨by simpa using hn,h⟩
theorem qky (o:Oper){H:Heap}{K:Value→(Heap→Prop)→Prop}(hg:∀p,gt c p→G→p)(hev:∀x v,ev x=some v→G→ρ x=v)(hX:∀f,memN f X.calls=true→q3b X.P f)(hρ:∀f,ρ (.func f)=.func (.func f) #[] #[])
  (h:qx4 X ev c o H K):∃v fact,K v fact∧(∀q,c=some q→¬q→∀H',fact H')∧(G→fact H)∧(G→∀w,fact w.heap→Good X.P w (fun _ _=>False) (fun v' H'=>v'=v∧H'=w.heap) ((execOp ρ o).run X.P w)):=by
 unfold qx4 at h
 split at h
 ·rename_i t x hop;obtain⟨a,ha,h⟩:=q05 h
  split at h
  ·rename_i b off
   split at h
   ·rename_i hag;unfold qx1 at h
    split at h
    ·rename_i ls _;obtain⟨us,h⟩:=qhl (ls:=ls) h
     split at h
     ·rename_i hlen;refine⟨_,_,h.2,fun q hq hn H'=>by subst hq; exact fun hq'=>absurd hq' hn,fun g=>h.1,fun g w hw=>q2z ?_⟩
      simp [execOp,hop,hev x _ ha g,qbm hag hlen (hg _ hw g)]
     ·exact h.elim
    ·exact h.elim
   ·rename_i hag;have hu:=qbl h;obtain⟨u,h1,h2⟩:=qhm h;refine⟨_,_,h2,fun q hq hn H'=>by subst hq; exact fun hq'=>absurd hq' hn,fun g=>h1,fun g w hw=>q2z ?_⟩
    simp [execOp,hop,hev x _ ha g,qbn hu hag (hg _ hw g)]
  ·exact h.elim
 ·rename_i t x i ok hop;obtain⟨m,hm,h⟩:=q05 h;obtain⟨k,hk,h⟩:=q05 h
  split at h
  ·rename_i kt e ht;obtain⟨u,h⟩:=qhm h
   split at h
   ·obtain⟨there,h1,h2⟩:=h;refine⟨_,_,h2,fun q hq hn H'=>by subst hq; exact fun hq'=>absurd hq' hn,fun g=>h1,fun g w hw=>q2z ?_⟩
    simp [execOp,hop,hev x _ hm g,hev i _ hk g,hg _ hw g w rfl]
   ·refine⟨_,_,h.2,fun q hq hn H'=>by subst hq; exact fun hq'=>absurd hq' hn,fun g=>h.1,fun g w hw=>q2z ?_⟩
    simp [execOp,hop,hev x _ hm g,hev i _ hk g,hg _ hw g w rfl]
  ·exact h.elim
 ·rename_i s d x hop;obtain⟨v,hv,h⟩:=q05 h
  split at h
  ·obtain⟨b,h1,h2⟩:=h;refine⟨_,_,h2,fun q hq hn H'=>by subst hq; exact fun hq'=>absurd hq' hn,fun g=>h1,fun g w hw=>q2z ?_⟩
   simp [execOp,hop,hev x _ hv g,hg _ hw g w rfl]
  ·exact h.elim
 ·rename_i it hop;obtain⟨v,hv,h⟩:=q05 h
  split at h
  ·obtain⟨k,h⟩:=qpj h;obtain⟨x,h1,h2⟩:=qpj h;refine⟨_,_,h2,fun q hq hn H'=>by subst hq; exact fun hq'=>absurd hq' hn,fun g=>h1,fun g w hw=>q2z ?_⟩
   simp [execOp,hop,hev it _ hv g,hg _ hw g w rfl]
  ·exact h.elim
 ·rename_i cl hop
  split at h
  ·rename_i f hcl
   split at h
   ·obtain⟨vs,hvs,h⟩:=q05 h;obtain⟨ss,hss,h⟩:=q05 h;obtain⟨u,h1,h2⟩:=qcu h;refine⟨_,_,h2,fun q hq hn H'=>by subst hq; exact fun hq'=>absurd hq' hn,fun g=>h1,fun g w hw=>q2z ?_⟩
    have e1:cl.args.map ρ=⟨vs⟩:=by apply Array.ext'; simp [q2y hev _ _ hvs g]
    have h3:=hg _ h1 g w;simp only [execOp,hop,resolve,hcl,hρ,Deferred.ofValue,invoke,e1,Sem.run_bind,Sem.run_pure,Result.andThen_ok];simpa using h3
   obtain⟨hf,h⟩:=qkx h;obtain⟨vs,hvs,h⟩:=q05 h;obtain⟨ss,hss,h⟩:=q05 h;obtain⟨u,h1,h2⟩:=qcu h;refine⟨_,_,h2,fun q hq hn H'=>by subst hq; exact fun hq'=>absurd hq' hn,fun g=>h1,fun g w hw=>?_⟩
   have e1:cl.args.map ρ=⟨vs⟩:=by apply Array.ext'; simp [q2y hev _ _ hvs g]
   have e2:(execOp ρ o).run X.P w=.ok (.enter f ⟨vs⟩) w:=by
    simp only [execOp,hop,resolve,hcl,hρ,Deferred.ofValue,invoke,e1,Sem.run_bind,Sem.run_pure,Result.andThen_ok];rw [q5n (hX f hf)];simp
   rw [e2];exact⟨rfl,(hg _ hw g w rfl).mono fun e w2 he=>he.toP⟩
  ·rename_i hcl;obtain⟨vs,hvs,h⟩:=q05 h;obtain⟨n,h1,h2⟩:=h;refine⟨_,_,h2,fun q hq hn H'=>by subst hq; exact fun hq'=>absurd hq' hn,fun g=>h1,fun g w hw=>q2z ?_⟩
   have e1:cl.args.map ρ=⟨vs⟩:=by apply Array.ext'; simp [q2y hev _ _ hvs g]
   simp [execOp,hop,resolve,hcl,e1,invoke,builtin,hg _ hw g w rfl]
  ·exact h.elim
 ·exact h.elim
theorem qkc {P:Program}{w:World}{b o:Nat}{v:Value}(hs:(q02 w.heap b o).isSome=true)(hf:q4f w.heap b o=false)(hv:q09 [v]=true) :
  (store ⟨b,o,none⟩ v).run P w=.ok () (w.setCell ⟨b,o,none⟩ v):=by
 have hv':v.oneCell'=true:=by cases v <;> simp [q09,Value.oneCell'] at hv ⊢
 rw [run_store P w _ v _ hv',cell?_cellAt]
 cases hc:q02 w.heap b o with
 | none=>simp [hc] at hs
 | some u=>simp [frozen?_frozenAt,hf]
theorem q6h {v:Value}{r:List Value}(h:q09 (v::r)=true):q09 [v]=true∧q09 r=true:=by
 cases v <;> simp [q09] at h ⊢ <;> exact h
theorem q30 {P:Program}{b:Nat}:∀(l:List Value) (o i:Nat) (w:World),q38 w.heap b (o+i) l→(∀j,j < l.length→(q02 w.heap b (o+i+j)).isSome=true∧q4f w.heap b (o+i+j)=false)→q09 l=true→
  ∃w',(storeCells ⟨b,o,none⟩ l i).run P w=.ok () w'∧Rest w w'∧w'.heap=q46 w.heap b (o+i) l
 | [],o,i,w,_,_,_=>⟨w,rfl,Rest.refl w,rfl⟩
 | v::r,o,i,w,h,ha,hp=>by
  obtain⟨hp1,hp2⟩:=q6h hp;have h0:=ha 0 (by simp);have hst:=qkc (P:=P) (w:=w) (b:=b) (o:=o+i) (v:=v) (by simpa using h0.1) (by simpa using h0.2) hp1;have hsame:∀x,(q02 (q97 w.heap b (o+i) v) b x).isSome=(q02 w.heap b x).isSome∧q4f (q97 w.heap b (o+i) v) b x=q4f w.heap b x:=by
   intro x;simp only [q02,q4f,q97,Array.getElem?_modify]
   cases hb:w.heap[b]? with
   | none=>simp
   | some ob=>
    cases ob <;> simp [Array.getElem?_setIfInBounds]
    rename_i c e fz
    split <;> (try split) <;> simp_all
  obtain⟨w',h1,h2,h3⟩:=q30 (P:=P) (b:=b) r o (i+1) (w.setCell ⟨b,o+i,none⟩ v) (by
    rw [q9g]
    clear hst
    have:∀(l:List Value) (x:Nat),(∀j,j < l.length→(q02 (q97 w.heap b (o+i) v) b (x+j)).isSome=true∧q4f (q97 w.heap b (o+i) v) b (x+j)=false)→q38 (q97 w.heap b (o+i) v) b x l:=by
     intro l
     induction l with
     | nil=>intro x _; trivial
     | cons u l ih=>intro x hx; exact⟨by simpa using hx 0 (by simp),ih (x+1) (fun j hj=>by have:=hx (j+1) (by simp; omega); rwa [show x+(j+1)=x+1+j by omega] at this)⟩
    refine this r _ fun j hj=>?_
    have:=ha (j+1) (by simp; omega);rw [(hsame _).1,(hsame _).2]
    rwa [show o+i+(j+1)=o+(i+1)+j by omega] at this) (fun j hj=>by
    rw [q9g,(hsame _).1,(hsame _).2];have:=ha (j+1) (by simp; omega)
    rwa [show o+i+(j+1)=o+(i+1)+j by omega] at this) hp2
  refine⟨w',?_,?_,?_⟩
  ·simp only [storeCells,Sem.run_bind,qcv,hst,Result.andThen_ok,h1]
  ·exact Rest.trans (b:=w.setCell ⟨b,o+i,none⟩ v) ⟨rfl,rfl,rfl⟩ h2
  ·rw [h3,q9g]; rfl
theorem q68 {H:Heap}{b:Nat}:∀(l:List Value) (x:Nat),q38 H b x l→∀j,j < l.length→(q02 H b (x+j)).isSome=true∧q4f H b (x+j)=false
 | [],_,_,j,hj=>by simp at hj
 | _::r,x,h,0,_=>h.1
 | _::r,x,h,j+1,hj=>by
  have:=q68 r (x+1) h.2 j (by simpa using hj)
  rwa [show x+1+j=x+(j+1) by omega] at this
theorem qtt {P:Program}{t:TypeId}{b off:Nat}{v:Value}{w:World}(hl:v.cells.toList.length=P.cellsOf t)(hi:P.info? t≠none)(hp:q09 v.cells.toList=true)(h:q38 w.heap b off v.cells.toList) :
  ∃w',(Instr.storeAt t (.pointer (some ⟨b,off,none⟩)) v).run P w=.ok () w'∧Rest w w'∧w'.heap=q46 w.heap b off v.cells.toList:=by
 obtain⟨w',h1,h2,h3⟩:=q30 (P:=P) (b:=b) v.cells.toList off 0 w (by simpa using h) (by simpa using q68 _ _ h) hp;refine⟨w',?_,h2,by simpa using h3⟩;simp only [Instr.storeAt,Instr.sureAddr,Sem.run_bind,Sem.run_pure,Result.andThen_ok,storeVar,q1s P t hi];rw [if_neg (by simpa using hl)];simp only [h1]
theorem q60 {P:Program}{s:Sem Value}{H:Heap}{KP K:Value→Heap→Prop}{w:World}(hw:w.heap=H)(h:RunW P s H K):Good P w KP K ((do pure (Next.value (← s)):Sem Next).run P w):=by
 obtain⟨a,w',h1,h2,h3⟩:=h w hw;simp only [Sem.run_bind,h1,Result.andThen_ok,Sem.run_pure];exact⟨h2,h3⟩
theorem qho {P:Program}{s:Sem Unit}{H:Heap}{KP:Value→Heap→Prop}{K:Heap→Prop}{w:World}(hw:w.heap=H)(h:RunW P s H fun _ H'=>K H'):Good P w KP (fun v H'=>v=undef∧K H') ((do s; pure Next.skip:Sem Next).run P w):=by
 obtain⟨a,w',h1,h2,h3⟩:=h w hw;simp only [Sem.run_bind,h1,Result.andThen_ok,Sem.run_pure];exact⟨h2,rfl,h3⟩
theorem qx6 (z:List Value)(hz:z≠[]):∀(n i:Nat),i < n*z.length→(repL z n)[i]?=z[i % z.length]?
 | 0,i,h=>by simp at h
 | n+1,i,h=>by
  simp only [repL]
  by_cases hi:i < z.length
  ·rw [List.getElem?_append_left hi,zal hi]
  ·rw [List.getElem?_append_right (by omega),qx6 z hz n (i - z.length) (by rw [Nat.succ_mul] at h; omega)];rw [← Nat.mod_eq_sub_mod (by omega)]
theorem q8b (z:List Value):∀n,(repL z n).length=n*z.length
 | 0=>by simp [repL]
 | n+1=>by simp [repL,q8b z n,Nat.succ_mul,Nat.add_comm]
theorem qzm (z:Array Value)(n:Nat):(Array.range (n*z.size)).map (fun i=>z[i % z.size]!)=⟨repL z.toList n⟩:=by
 apply Array.ext';apply List.ext_getElem?;intro i
 by_cases hz:z.toList=[]
 ·have:z.size=0:=by rw [← za1,hz]; rfl
  have h2:(repL z.toList n).length=0:=by simp [q8b,this]
  simp [this];omega
 by_cases hi:i < n*z.size
 ·have h1:=qx6 z.toList hz n i (by simpa using hi);simp only [za1] at h1;rw [h1];have hpos:0 < z.size:=by
   rw [← za1]; exact List.length_pos_iff.2 hz
  have hlt:=za6 i hpos;simp [hi,hlt]
 ·rw [List.getElem?_eq_none (by simp; omega),List.getElem?_eq_none (by rw [q8b]; simp; omega)]
theorem qel {P:Program}(t e:TypeId)(n:Nat)(parts:List (Nat × Value))(l:List Value)(ht:P.underlying t=some (.slice e))(hn:n*P.cellsOf e≤16777216)(h:qbv P e n parts=some l)(w:World) :
  (Instr.buildSlice t n parts.toArray).run P w=.ok (.slice (some ⟨w.heap.size,0,none⟩) n n) (w.alloc (.cells ⟨l⟩ e)):=by
 unfold qbv at h
 split at h
 ·rename_i z hz;obtain⟨v,hv,hrun,hinf⟩:=qan hz
  split at h
  ·rename_i hlen;have hvs:v.cells.size=P.cellsOf e:=by rw [← za1,hv,hlen]
   have hf:=qao _ parts ⟨repL z n⟩ l h;simp only [Instr.buildSlice,Sem.run_bind,q07 ht,Result.andThen_ok,q1s P e hinf];rw [if_neg (by omega)]
   by_cases h0:n*P.cellsOf e=0
   ·have h1:(repL z n).length=0:=by rw [q8b,hlen,h0]
    have h2:repL z n=[]:=zbf.1 h1;rw [h2] at hf;rw [if_pos h0];have hf':Instr.fill (fun i=>some (i*P.cellsOf e,P.cellsOf e)) #[] parts=some ⟨l⟩:=hf
    have hr:Array.map (fun _:Nat=>(default:Value)) (Array.range 0)=#[]:=by simp
    simp [h0];rw [hr,hf'];simp [newRow]
   ·rw [if_neg h0];have h1:=qzm v.cells n;rw [hvs,hv] at h1;simp only [Sem.run_bind,hrun,Result.andThen_ok,Sem.run_pure,hvs,h1,hf];simp [newRow]
  ·cases h
 ·cases h
theorem qhp (o:Oper){H:Heap}{K:Value→Heap→Prop}(hev:∀x v,ev x=some v→ρ x=v)(hX:∀f,memN f X.calls=true→q3b X.P f)(hρ:∀f,ρ (.func f)=.func (.func f) #[] #[])
  (h:qmy X ev o H K):∀w,w.heap=H→Good X.P w X.kp K ((execOp ρ o).run X.P w):=by
 intro w hw;have hl:∀(l:Array Operand) vs,q45 ev l.toList=some vs→l.map ρ=⟨vs⟩:=fun l vs hvs=>by
  apply Array.ext'; simp [q2y (G:=True) (fun x v h _=>hev x v h) _ _ hvs trivial]
 have hps:∀(l:Array (Nat × Operand)) vs,q9f ev l.toList=some vs→(l.map fun (i,x)=>(i,ρ x))=vs.toArray:=fun l vs hvs=>by
  apply Array.ext'; simp [← qbw (G:=True) (fun x v h _=>hev x v h) _ _ hvs trivial]
 unfold qmy at h
 split at h
 ·rename_i t hop;obtain⟨z,hz,h⟩:=q05 h;obtain⟨v,hv,hrun,_⟩:=qan hz;subst hw;have:v.cells=⟨z⟩:=by apply Array.ext'; simp [hv]
  simp [execOp,hop,Instr.alloc,hrun,newVar,newRow,this];exact⟨⟨rfl,rfl,rfl⟩,h _ _ rfl rfl⟩
 ·rename_i t x hop;obtain⟨v,hv,h⟩:=q05 h;subst hw;simp [execOp,hop,Instr.box,hev x v hv,newVar,newRow];exact⟨⟨rfl,rfl,rfl⟩,h _ _ rfl rfl⟩
 ·rename_i t n ps hop;obtain⟨vs,hvs,h⟩:=q05 h
  split at h
  ·rename_i e ht;obtain⟨l,hl',h⟩:=q05 h
   split at h
   ·rename_i hn;subst hw;simp only [execOp,hop,hps ps vs hvs,Sem.run_bind,qel t e n vs l ht hn hl' w,Result.andThen_ok,Sem.run_pure];exact⟨⟨rfl,rfl,rfl⟩,h _ _ rfl rfl⟩
   ·exact h.elim
  ·exact h.elim
 ·rename_i t r hop
  split at h
  ·subst hw;simp [execOp,hop,Instr.makeMap];exact⟨⟨rfl,rfl,rfl⟩,h _ _ rfl rfl⟩
  ·exact h.elim
 ·rename_i t x y hop;obtain⟨a,ha,h⟩:=q05 h;obtain⟨v,hv,h⟩:=q05 h
  split at h
  ·rename_i b off;obtain⟨hi,_,h⟩:=q4y h
   split at h
   ·rename_i hc;subst hw;obtain⟨w',h1,h2,h3⟩:=qtt hc.1 hi hc.2 h.1;simp only [execOp,hop,hev x _ ha,hev y v hv,Sem.run_bind,h1,Result.andThen_ok,Sem.run_pure];exact⟨h2,h.2 _ h3⟩
   ·exact h.elim
  ·exact h.elim
 ·rename_i t l c hop;obtain⟨a,ha,h⟩:=q05 h;obtain⟨b,hb,h⟩:=q05 h;have:=q60 (KP:=X.kp) hw h;simp only [execOp,hop,hev l a ha,hev c b hb];exact this.mono fun v H' hv=>by obtain⟨u,h1,h2⟩:=qhm hv; subst h1; exact h2
 ·rename_i t m k x hop;obtain⟨a,ha,h⟩:=q05 h;obtain⟨b,hb,h⟩:=q05 h;obtain⟨v,hv,h⟩:=q05 h;simp only [execOp,hop,hev m a ha,hev k b hb,hev x v hv];exact (qho hw h).mono fun u H' hu=>by obtain⟨rfl,h2⟩:=hu; exact h2
 ·rename_i t m k x hop;obtain⟨a,ha,h⟩:=q05 h;obtain⟨b,hb,h⟩:=q05 h;obtain⟨v,hv,h⟩:=q05 h;simp only [execOp,hop,hev m a ha,hev k b hb,hev x v hv];exact (qho hw h).mono fun u H' hu=>by obtain⟨rfl,h2⟩:=hu; exact h2
 ·rename_i t m k hop;obtain⟨a,ha,h⟩:=q05 h;obtain⟨b,hb,h⟩:=q05 h;simp only [execOp,hop,hev m a ha,hev k b hb];refine (q60 hw h).mono fun v H' hv=>?_
  split at hv
  ·obtain⟨u,n,h1,h2⟩:=qhm hv; subst h1; exact h2
  ·exact hv.elim
 ·rename_i t m k x hop;obtain⟨a,ha,h⟩:=q05 h;obtain⟨b,hb,h⟩:=q05 h;obtain⟨v,hv,h⟩:=q05 h;simp only [execOp,hop,hev m a ha,hev k b hb,hev x v hv];exact (qho hw h).mono fun u H' hu=>by obtain⟨rfl,h2⟩:=hu; exact h2
 ·rename_i t x hop;obtain⟨a,ha,h⟩:=q05 h;simp only [execOp,hop,hev x a ha];exact (q60 hw h).mono fun v H' hv=>by obtain⟨r,h1,h2⟩:=hv; subst h1; exact h2
 ·rename_i it s hop;obtain⟨a,ha,h⟩:=q05 h;simp only [execOp,hop,hev it a ha];refine (q60 hw h).mono fun v H' hv=>?_
  rcases hv with ⟨h1,h2⟩|⟨k,x,h1,h2⟩
  ·subst h1; exact h2
  ·subst h1; exact h2
 ·rename_i s d x hop;obtain⟨a,ha,h⟩:=q05 h;simp only [execOp,hop,hev x a ha];exact (q60 hw h).mono fun v H' hv=>by obtain⟨u,h1,h2⟩:=qhm hv; subst h1; exact h2
 ·rename_i cl hop
  split at h
  ·rename_i f hcl;obtain⟨hf,h⟩:=qkx h;obtain⟨vs,hvs,h⟩:=q05 h;obtain⟨ss,hss,h⟩:=q05 h;have e2:(execOp ρ o).run X.P w=.ok (.enter f ⟨vs⟩) w:=by
    simp only [execOp,hop,resolve,hcl,hρ,Deferred.ofValue,invoke,hl _ _ hvs,Sem.run_bind,Sem.run_pure,Result.andThen_ok];rw [q5n (hX f hf)];simp
   rw [e2];refine Good.mono (K:=fun v H'=>qgh ss fun u=>v=u∧K u H') ?_ fun v H' hv=>?_
   ·split at h
    ·exact⟨rfl,h w hw⟩
    ·exact⟨rfl,(h w hw).mono fun e w'' he=>he.toP⟩
   obtain⟨u,h1,h2⟩:=qcu hv; subst h1; exact h2
  ·rename_i x hx hcl;obtain⟨fv,hfv,hA⟩:=q05 h
   clear h
   obtain⟨vs,hvs,hB⟩:=q05 hA
   clear hA
   obtain⟨ss,hss,hC⟩:=q05 hB
   clear hB
   obtain⟨f,first,cap,rfl,h⟩|⟨l,rfl,h⟩:(∃f first cap,fv=.func (.func f) first cap∧(memN f X.calls=true∧qcq X.P f ⟨first.toList++vs++cap.toList⟩ H fun v H'=>qgh ss fun u=>v=u∧K u H'))∨
     (∃l,fv=.func (.yield l) #[] #[]∧q4g X.P l vs H fun v H'=>qgh ss fun u=>v=u∧K u H'):=by
    clear hev hρ
    cases fv <;> (try exact hC.elim)
    rename_i fn first cap
    cases fn <;> (try exact hC.elim)
    ·exact .inl ⟨_,_,_,rfl,hC⟩
    ·rcases first with ⟨_|_⟩ <;> rcases cap with ⟨_|_⟩ <;> (try exact hC.elim);exact .inr ⟨_,rfl,hC⟩
   ·obtain⟨hf,h⟩:=h;have e2:(execOp ρ o).run X.P w=.ok (.enter f ⟨first.toList++vs++cap.toList⟩) w:=by
     simp only [execOp,hop,resolve,hcl,hev x _ hfv,Deferred.ofValue,invoke,hl _ _ hvs,Sem.run_bind,Sem.run_pure,Result.andThen_ok];rw [q5n (hX f hf)];simp
    rw [e2];refine Good.mono (K:=fun v H'=>qgh ss fun u=>v=u∧K u H') ⟨rfl,(h w hw).mono fun e w'' he=>he.toP⟩ fun v H' hv=>?_
    obtain⟨u,h1,h2⟩:=qcu hv; subst h1; exact h2
   ·obtain⟨fn,tmps,assign,body,h1,h2⟩:=h w hw;have e2:(execOp ρ o).run X.P w=.ok (.round l fn tmps assign body) w:=by
     simp only [execOp,hop,resolve,hcl,hev x _ hfv,Deferred.ofValue,invoke,hl _ _ hvs,Sem.run_bind,Sem.run_pure,Result.andThen_ok];simpa using h1
    rw [e2];refine Good.mono (K:=fun v H'=>qgh ss fun u=>v=u∧K u H') ⟨rfl,h2.mono fun e w'' he=>he.toP⟩ fun v H' hv=>?_
    obtain⟨u,h1,h2⟩:=qcu hv; subst h1; exact h2
  ·rename_i hcl;obtain⟨vs,hvs,h⟩:=q05 h;have:=q60 (KP:=X.kp) hw h;simp only [execOp,hop,resolve,hcl,pure_bind,invoke,builtin,hl _ _ hvs];exact this.mono fun v H' hv=>by obtain⟨a,n,c,h1,h2⟩:=hv; subst h1; exact h2
  ·rename_i hcl;obtain⟨vs,hvs,h⟩:=q05 h;have:=q60 (KP:=X.kp) hw h;simp only [execOp,hop,resolve,hcl,pure_bind,invoke,builtin,hl _ _ hvs];exact this.mono fun v H' hv=>by obtain⟨n,h1,h2⟩:=hv; subst h1; exact h2
  ·rename_i hcl;obtain⟨vs,hvs,h⟩:=q05 h;have:=q60 (KP:=X.kp) hw h;simp only [execOp,hop,resolve,hcl,pure_bind,invoke,builtin,hl _ _ hvs];exact this
  ·rename_i hcl;obtain⟨vs,hvs,h⟩:=q05 h;have:=q60 (KP:=X.kp) hw h;simp only [execOp,hop,resolve,hcl,pure_bind,invoke,builtin,hl _ _ hvs];exact this
  ·exact h.elim
 ·rename_i x hop;obtain⟨v,hv,h⟩:=q05 h;unfold panP at h
  split at h
  ·subst hw;simp only [execOp,hop,hev x _ hv,Sem.run_bind,run_panic_iface,Result.andThen];exact⟨Rest.refl w,h⟩
  ·exact h.elim
 ·exact h.elim
end
abbrev Pend:=List (Nat × Option (Heap→Prop))
def qtu (f:Option (Heap→Prop))(H:Heap):Prop:=match f with|none=>True|some p=>p H
section
variable {P:Program} {ops:Array Oper}
def qzn (P:Program)(w0:World)(KP:Value→Heap→Prop)(ops:Array Oper)(i:Nat)(K:Act→Heap→Prop)(a:Act)(H:Heap):Prop:=
 ∀w,w.heap=H→Rest w0 w→match ops[i]? with
  | none=>K a H
  | some o=>if Region.wanted o (yielded ops a.tmps) then Good P w KP (fun v H'=>K (a.put o.dst v) H') ((execOp a.eval o).run P w) else K (a.put o.dst undef) H
theorem qkz {w0:World}{KP:Value→Heap→Prop}{i:Nat}{K K':Act→Heap→Prop}{a:Act}{H:Heap}(hk:∀a H,K a H→K' a H)(h:qzn P w0 KP ops i K a H):qzn P w0 KP ops i K' a H:=by
 intro w hw hr;have:=h w hw hr
 cases ho:ops[i]? with
 | none=>simp only [ho] at this ⊢; exact hk _ _ this
 | some o=>
  simp only [ho] at this ⊢
  split at this
  ·rename_i hwn;rw [if_pos hwn]; exact this.mono fun v H'=>hk _ _
  ·rename_i hwn;rw [if_neg hwn]; exact hk _ _ this
def qbo (isW:Nat→Bool)(bf:Nat→Nat→Bool)(i:Nat)(pd:Pend):Pend:=if isW i then pd.filter (fun x=>!bf i x.1) else pd
def qhq (P:Program)(w0:World)(KP:Value→Heap→Prop)(ops:Array Oper)(isW:Nat→Bool)(bf:Nat→Nat→Bool)(Q:Act→Heap→Prop):Nat→Pend→Array Bool→Act→Heap→Prop
 | 0,pd,listed,a,H=>(∀x∈pd,qtu x.2 H)∧Region.ready .any ops listed=[]∧Q a H
 | n+1,pd,listed,a,H=>(∀x∈pd,qtu x.2 H)∧(Region.ready .any ops listed=[]→Q a H)∧
  ∀i∈Region.ready .any ops listed,qzn P w0 KP ops i (fun a' H'=>qhq P w0 KP ops isW bf Q n (qbo isW bf i pd) (listed.setIfInBounds i true) a' H') a H
def FR (ro:Option Nat):Fence:={ Fence.wide with round:=ro }
theorem qem {o:Oper}{a:Act}{w w0:World}{ro:Option Nat}(hd:∀c,o.op≠.defer c)(hr:Rest w0 w){KP K:Value→Heap→Prop}{next:Act→World→Prop}{Q':Exit→Act→World→Prop}
  (hk:∀v w',Rest w0 w'→K v w'.heap→next (a.put o.dst v) w') (hp:∀v w',Rest w0 w'→KP v w'.heap→Q' (.panic [{ v,recovered:=false }]) a w')
  (h:Good P w KP K ((execOp a.eval o).run P w)):o.wpIn (FR ro) 0 P a w next Q':=by
 refine⟨fun f _=>trivial,?_⟩
 have hs:o.semAt (FR ro).round a.eval=execOp a.eval o:=Oper.semAt_eq ro _ o hd;rw [hs];generalize (execOp a.eval o).run P w=r at h
 cases r with
 | halt h' w'=>
  cases h' <;> simp only [Good] at h
  exact hp _ _ (hr.trans h.1) h.2
 | ok n w'=>
  cases n <;> simp only [Good] at h
  case value v=>exact hk _ _ (hr.trans h.1) h.2
  case skip=>exact hk _ _ (hr.trans h.1) h.2
  case enter f args=>
   obtain⟨rfl,h⟩:=h;rw [Oper.uponIn_enter];refine⟨fun hd=>(by cases hd),?_⟩
   have h2:CallsIn Fence.wide (0 - 1) P f args w' fun
     | .returned v,w''=>next (a.put o.dst v) w''
     | .panicked chain,w''=>Q' (.panic chain) a w''
     | .outgrown,_=>LetsOut Q':=callsIn_wide.2 (h.mono fun e w'' he=>by
    cases e <;> simp only [FinP] at he ⊢
    case returned v=>exact hk _ _ (hr.trans he.1) he.2
    case panicked chain=>obtain⟨v,rfl,h1,h2⟩:=he; exact hp _ _ (hr.trans h1) h2)
   exact h2
  case round l f tmps assign body=>
   obtain⟨rfl,h⟩:=h;rw [Oper.uponIn_round];refine⟨fun hd=>(by cases hd),?_⟩
   have h2:RoundIn Fence.wide (0 - 1) P l f tmps assign body w' fun
     | .returned v,w''=>next (a.put o.dst v) w''
     | .panicked chain,w''=>Q' (.panic chain) a w''
     | .outgrown,_=>LetsOut Q':=h.mono fun e w'' he=>by
    cases e <;> simp only [FinP] at he ⊢
    case returned v=>exact hk _ _ (hr.trans he.1) he.2
    case panicked chain=>obtain⟨v,rfl,h1,h2⟩:=he; exact hp _ _ (hr.trans h1) h2
   exact h2
theorem qap {w0:World}{KP:Value→Heap→Prop}{ro:Option Nat}{isW:Nat→Bool}{bf:Nat→Nat→Bool}{Q:Act→Heap→Prop}{Q':Exit→Act→World→Prop}(hQ:∀a w,Rest w0 w→Q a w.heap→Q' .normal a w)
  (hd:∀o∈ops.toList,∀c,o.op≠.defer c) {Inv:Act→Prop} (hInv:∀a o v,o∈ops.toList→Inv a→Inv (a.put o.dst v)) (hP:∀v a w,Rest w0 w→Inv a→KP v w.heap→Q' (.panic [{ v,recovered:=false }]) a w) :
  ∀(n:Nat) (pd:Pend) (listed:Array Bool) (a:Act) (w:World),Rest w0 w→Inv a→qhq P w0 KP ops isW bf Q n pd listed a w.heap→wpAnyIn (FR ro) 0 P .any ops Q' n listed a w
 | 0,_,_,_,_,hr,_,h=>⟨h.2.1,hQ _ _ hr h.2.2⟩
 | n+1,pd,listed,a,w,hr,ha,h=>⟨fun h0=>hQ _ _ hr (h.2.1 h0),fun i hi=>by
  have h1:=h.2.2 i hi w rfl hr;unfold wpOpIn
  split at h1
  ·rename_i ho; simp only [ho]; exact qap hQ hd hInv hP n _ _ a w hr ha h1
  ·rename_i o ho;simp only [ho];have hmem:o∈ops.toList:=by
    have:ops.toList[i]?=some o:=by simpa using ho
    exact z9i this
   split at h1
   ·rename_i hw;rw [if_pos hw];exact qem (hd o hmem) hr (fun v w' hr' hk=>qap hQ hd hInv hP n _ _ _ w' hr' (hInv _ _ _ hmem ha) hk) (fun v w' hr' hk=>hP v a w' hr' ha hk) h1
   ·rename_i hw;rw [if_neg hw];exact⟨fun f _=>trivial,qap hQ hd hInv hP n _ _ _ w hr (hInv _ _ _ hmem ha) h1⟩⟩
def q92 (P:Program)(ops:Array Oper)(o:Oper)(v:Value)(f:Option (Heap→Prop))(a:Act):Prop:=
 (Region.wanted o (yielded ops a.tmps)=true→∀w,qtu f w.heap→Good P w (fun _ _=>False) (fun v' H'=>v'=v∧H'=w.heap) ((execOp a.eval o).run P w))∧
 (Region.wanted o (yielded ops a.tmps)=false→v=undef)
theorem q92.of_same {o:Oper}{v:Value}{f:Option (Heap→Prop)}{a a':Act}(hy:q92 P ops o v f a)(he:execOp a'.eval o=execOp a.eval o)
  (hw:Region.wanted o (yielded ops a'.tmps)=Region.wanted o (yielded ops a.tmps)):q92 P ops o v f a':=by
 unfold q92 at *;rw [he,hw];exact hy
theorem q92.step {w0:World}{KP:Value→Heap→Prop}{i:Nat}{o:Oper}{v:Value}{f:Option (Heap→Prop)}{a:Act}{H:Heap}(hi:ops[i]?=some o)(hy:q92 P ops o v f a)(hf:qtu f H){K:Act→Heap→Prop}(h:K (a.put o.dst v) H) :
  qzn P w0 KP ops i K a H:=by
 intro w hw hr;simp only [hi]
 split
 ·rename_i hwn;subst hw;exact (hy.1 hwn w hf).mono2 (fun v' H' ⟨h1,h2⟩=>by subst h1; subst h2; exact h) fun _ _ h=>h.elim
 ·rename_i hwn;rw [← hy.2 (by simpa using hwn)]; exact h
theorem z4i {w0:World}{KP:Value→Heap→Prop}{j:Nat}{oi oj:Oper}{v:Value}{f:Option (Heap→Prop)}(hj:ops[j]?=some oj)(hap:oi.apart ops oj=true)
  (hsi:∀cs b,oi.op≠.select cs b) (hsj:∀cs b,oj.op≠.select cs b) {K:Act→Heap→Prop} {a:Act} {H:Heap}
  (hy:q92 P ops oi v f a) (h:qzn P w0 KP ops j K (a.put oi.dst v) H) :
  qzn P w0 KP ops j (fun a' H'=>q92 P ops oi v f a'∧K (a'.put oi.dst v) H') a H:=by
 obtain⟨h1,h2,h3⟩:=Oper.apart_spec hap;have keep:∀(a:Act),q92 P ops oi v f a→∀u,q92 P ops oi v f (a.put oj.dst u):=fun a hy u=>
  hy.of_same (execOp_put oi hsi a oj.dst u h3) (wanted_put oi a oj.dst u h3)
 intro w hw hr;have h':=h w hw hr;simp only [hj] at h' ⊢;rw [wanted_put oj a oi.dst v h1] at h'
 split
 ·rename_i hwn;rw [if_pos hwn,execOp_put oj hsj a oi.dst v h1] at h';exact h'.mono fun u H' hk=>⟨keep a hy u,by rw [← Act.put_comm a v u h2]; exact hk⟩
 ·rename_i hwn;rw [if_neg hwn] at h';exact⟨keep a hy _,by rw [← Act.put_comm a v undef h2]; exact h'⟩
def qhr (ops:Array Oper)(listed:Array Bool):Prop:=
 ∀j oj,ops[j]?=some oj→listed.getD j false=true→∀e∈oj.after,Region.binds .any e=true→listed.getD e.on false=true
theorem qhr.set {listed:Array Bool}(h:qhr ops listed){i:Nat}(hi:i∈Region.ready .any ops listed):qhr ops (listed.setIfInBounds i true):=by
 obtain⟨_,oi,hoi,hall⟩:=mem_ready.1 hi;intro j oj hj hl e he hb
 by_cases hij:i=j
 ·subst hij;have:oj=oi:=Option.some.inj (hj.symm.trans hoi);subst this;exact getD_set_true (hall e he hb)
 ·rw [getD_set_ne false hij] at hl;exact getD_set_true (h j oj hj hl e he hb)
def BfOk (ops:Array Oper)(bf:Nat→Nat→Bool):Prop:=
 ∀j oj,ops[j]?=some oj→∀i,bf j i=true→∃e∈oj.after,Region.binds .any e=true∧(e.on=i∨(e.on < j∧bf e.on i=true∧(ops[e.on]?).isSome=true))
theorem z4j {bf:Nat→Nat→Bool}(hb:BfOk ops bf){listed:Array Bool}(hc:qhr ops listed) :
  ∀(j:Nat) (oj:Oper),ops[j]?=some oj→listed.getD j false=true→∀i,bf j i=true→listed.getD i false=true:=by
 intro j
 induction j using Nat.strongRecOn with
 | _ j ih=>
  intro oj hj hl i hi;obtain⟨e,he,hbd,h⟩:=hb j oj hj i hi;have h1:=hc j oj hj hl e he hbd
  rcases h with h|⟨hlt,h2,h3⟩
  ·rw [← h]; exact h1
  ·obtain⟨ok,hk⟩:=zbo.1 h3;exact ih e.on hlt ok hk h1 i h2
theorem bf_ready {bf:Nat→Nat→Bool}(hb:BfOk ops bf){listed:Array Bool}(hc:qhr ops listed){j:Nat}(hj:j∈Region.ready .any ops listed)(i:Nat)(hi:bf j i=true):listed.getD i false=true:=by
 obtain⟨_,oj,hoj,hall⟩:=mem_ready.1 hj;obtain⟨e,he,hbd,h⟩:=hb j oj hoj i hi;have h1:=hall e he hbd
 rcases h with h|⟨hlt,h2,h3⟩
 ·rw [← h]; exact h1
 ·obtain⟨ok,hk⟩:=zbo.1 h3;exact z4j hb hc e.on ok hk h1 i h2
theorem getD_ft {listed:Array Bool}{i:Nat}(h:listed.getD i true=false):listed.getD i false=false:=by
 rcases z9h i listed.size with h'|h'
 ·simp [h'] at h ⊢; exact h
 ·simp [Array.getElem?_eq_none h'] at h
theorem qtv {isW:Nat→Bool}{bf:Nat→Nat→Bool}{i j:Nat}{f:Option (Heap→Prop)}{pd:Pend}(h:bf j i=false):qbo isW bf j ((i,f)::pd)=(i,f)::qbo isW bf j pd:=by
 unfold qbo
 split <;> simp [h]
theorem first_R {w0:World}{KP:Value→Heap→Prop}{isW:Nat→Bool}{bf:Nat→Nat→Bool}{Q:Act→Heap→Prop}(hb:BfOk ops bf)(hs:Region.noSelect ops=true){i:Nat}{oi:Oper}{v:Value}{f:Option (Heap→Prop)}(hi:ops[i]?=some oi)(hiw:isW i=false) :
  ∀(n:Nat) (pd:Pend) (listed:Array Bool) (a:Act) (H:Heap),qhr ops listed→
   (∀j oj,ops[j]?=some oj→j≠i→listed.getD j true=false→(∀e∈oj.after,Region.binds .any e=true→e.on≠i)→oi.apart ops oj=true)→
   i∈Region.ready .any ops listed→q92 P ops oi v f a→
   qhq P w0 KP ops isW bf Q n ((i,f)::pd) (listed.setIfInBounds i true) (a.put oi.dst v) H→qhq P w0 KP ops isW bf Q (n+1) pd listed a H:=by
 intro n
 induction n with
 | zero=>
  intro pd listed a H hc _ hr hy h;refine⟨fun x hx=>h.1 x (z99 _ hx),fun h0=>(by rw [h0] at hr; cases hr),fun j hj=>?_⟩
  by_cases hji:j=i
  ·subst hji;refine hy.step hi (h.1 _ z98) ?_;refine⟨fun x hx=>?_,h.2⟩
   have:x∈pd:=by unfold qbo at hx; rw [if_neg (by simp [hiw])] at hx; exact hx
   exact h.1 x (z99 _ this)
  ·have:=ready_mono hj hji;rw [h.2.1] at this
   cases this
 | succ n ih=>
  intro pd listed a H hc hfree hr hy h;refine⟨fun x hx=>h.1 x (z99 _ hx),fun h0=>(by rw [h0] at hr; cases hr),fun j hj=>?_⟩
  by_cases hji:j=i
  ·subst hji;refine hy.step hi (h.1 _ z98) ?_;have e1:qbo isW bf j pd=pd:=by unfold qbo; rw [if_neg (by simp [hiw])]
   rw [e1];have dropHead:∀(n:Nat) (pd pd':Pend) (listed:Array Bool) (a:Act) (H:Heap),(∀x∈pd',x∈pd)→qhq P w0 KP ops isW bf Q n pd listed a H→qhq P w0 KP ops isW bf Q n pd' listed a H:=by
    intro n
    induction n with
    | zero=>intro pd pd' listed a H hs h; exact⟨fun x hx=>h.1 x (hs x hx),h.2⟩
    | succ n ih2=>
     intro pd pd' listed a H hs h;refine⟨fun x hx=>h.1 x (hs x hx),h.2.1,fun k hk=>qkz (fun a' H'=>ih2 _ _ _ a' H' ?_) (h.2.2 k hk)⟩
     intro x hx;unfold qbo at hx ⊢
     split
     ·rename_i hw; rw [if_pos hw] at hx;rw [List.mem_filter] at hx ⊢;exact⟨hs x hx.1,hx.2⟩
     ·rename_i hw; rw [if_neg hw] at hx; exact hs x hx
   exact dropHead _ _ _ _ _ _ (fun x hx=>z99 _ hx) h
  ·have h1:=h.2.2 j (ready_mono hj hji);obtain⟨hjun,oj,hoj,hall⟩:=mem_ready.1 hj;have hiun:=getD_ft (mem_ready.1 hr).1;have hnot:∀e∈oj.after,Region.binds .any e=true→e.on≠i:=fun e he hb' heq=>by
    have h1:=hall e he hb';rw [heq,hiun] at h1; cases h1
   have hbfn:bf j i=false:=by
    cases hbf:bf j i with
    | false=>rfl
    | true=>have:=bf_ready hb hc hj i hbf; rw [hiun] at this; cases this
   have h2:=z4i hoj (hfree j oj hoj hji hjun hnot) (fun cs b=>Region.noSelect_spec hs i oi cs b hi) (fun cs b=>Region.noSelect_spec hs j oj cs b hoj) hy h1
   have hfree':∀k ok,ops[k]?=some ok→k≠i→(listed.setIfInBounds j true).getD k true=false→
     (∀e∈ok.after,Region.binds .any e=true→e.on≠i)→oi.apart ops ok=true:=fun k ok hk hki hun hno=>by
    refine hfree k ok hk hki ?_ hno
    by_cases hjk:j=k
    ·subst hjk; exact hjun
    ·rw [getD_set_ne true hjk] at hun; exact hun
   refine qkz (fun a' H' h3=>ih _ (listed.setIfInBounds j true) a' H' (hc.set hj) hfree' (ready_mono hr (Ne.symm hji)) h3.1 ?_) h2
   have h4:=h3.2;rw [qtv hbfn,Array.setIfInBounds_comm _ _ (Ne.symm hji)] at h4;exact h4
end
abbrev Kn:=List (Nat × Bool × Bool)
inductive GC where
 | yes|no|bad
 | iff (c:Prop)
def knOf:Kn→Nat→Bool→Option Bool
 | [],_,_=>none
 | (j',w',b)::r,j,w=>if Nat.beq j' j then (if w' == w then some b else (if b then some false else knOf r j w)) else knOf r j w
def qbx (ops:Array Oper)(j:Nat):Option Tmp:=match lget ops.toList j with|some o=>o.dst|none=>none
def qkd (ops:Array Oper)(fr:Fr)(kn:Kn):Nat→Option (Nat × Bool)→GC
 | _,none=>.yes
 | 0,some _=>.bad
 | n+1,some (j,w)=>match knOf kn j w with
  | some true=>.yes
  | some false=>.no
  | none=>match qbx ops j with
   | none=>.no
   | some d=>match lget fr d with
    | some (.p (.bool c))=>.iff (c=w)
    | some (.p (.tuple _))=>.no
    | some (.p _)=>.bad
    | some (.g h w' (.bool c))=>match qkd ops fr kn n (some (h,w')) with
     | .yes=>.iff (c=w)
     | .iff p=>.iff (p∧c=w)
     | .no=>.no
     | .bad=>.bad
    | _=>.bad
def impl (ops:Array Oper)(fr:Fr):Nat→Option (Nat × Bool)→Nat→Bool→Bool
 | 0,_,_,_=>false
 | _,none,_,_=>false
 | n+1,some (j',w'),j,w=>(Nat.beq j' j && w' == w) || (match qbx ops j' with
  | some d=>match lget fr d with
   | some (.g h w'' _)=>impl ops fr n (some (h,w'')) j w
   | _=>false
  | none=>false)
def heldB (ops:Array Oper)(fr:Fr)(kn:Kn)(gd:Option (Nat × Bool))(j:Nat)(w:Bool):Bool:=
 match knOf kn j w with
 | some b=>b
 | none=>impl ops fr 9 gd j w
def evG (ops:Array Oper)(fr:Fr)(kn:Kn)(gd:Option (Nat × Bool)):Operand→Option Value
 | .tmp t=>match lget fr t with
  | some (.p v)=>some v
  | some (.g j w v)=>if heldB ops fr kn gd j w then some v else none
  | _=>none
 | .const v=>some v
 | .global g=>some (.pointer (some ⟨g,0,none⟩))
 | .func f=>some (.func (.func f) #[] #[])
def qbp (ops:Array Oper)(fr:Fr)(kn:Kn)(gd:Option (Nat × Bool))(side:Bool)(a x:Operand):Option Value:=
 match evG ops fr kn gd x with
 | some v=>some v
 | none=>match a,x with
  | .tmp s,.tmp t=>match lget fr t with
   | some (.g j w v)=>match qbx ops j with
    | some d=>if Nat.beq d s && w == side then some v else none
    | none=>none
   | _=>none
  | _,_=>none
def qhs (ops:Array Oper):Kn→Nat→Option Bool
 | [],_=>none
 | (j,w,b)::r,t=>match qbx ops j with
  | some d=>if Nat.beq d t then some (w == b) else qhs ops r t
  | none=>qhs ops r t
def pkG (ops:Array Oper)(fr:Fr)(kn:Kn)(gd:Option (Nat × Bool))(a b d:Operand):Option (Bool × Value × Value):=
 match evG ops fr kn gd a with
 | some (.bool c)=>match (match a with|.tmp t=>qhs ops kn t|_=>none) with
  | some true=>match qbp ops fr kn gd true a b with|some v=>some (true,v,v)|none=>none
  | some false=>match qbp ops fr kn gd false a d with|some v=>some (false,v,v)|none=>none
  | none=>match qbp ops fr kn gd true a b,qbp ops fr kn gd false a d with|some x,some y=>some (c,x,y)|_,_=>none
 | _=>none
def qgk (ops:Array Oper):List Nat→Option Tmp→Bool
 | _,none=>true
 | [],some _=>true
 | j::r,some t=>(match qbx ops j with|some u=>!(Nat.beq u t)|none=>true) && qgk ops r (some t)
def qzo (g:Option (Nat × Bool))(gs:List Nat):List Nat:=match g with|some (j,_)=>j::gs|none=>gs
section defs
variable (X:Ctx) (ops:Array Oper)
def vcPR (o:Oper)(kn:Kn)(gs:List Nat)(fr:Fr)(H:Heap)(k:Fr→List Nat→Option (Heap→Prop)→Prop):Prop:=
 if qgk ops (qzo o.guard gs) o.dst=false then False else
 match qkd ops fr kn 9 o.guard with
 | .bad=>False
 | .no=>k (fr.put o.dst (.p undef)) gs none
 | .yes=>(match q91 X o.op with
  | .P=>qx3 X (evG ops fr kn o.guard) (pkG ops fr kn o.guard) none o.op fun v=>k (fr.put o.dst (.p v)) gs none
  | .R=>qx4 X (evG ops fr kn o.guard) none o H fun v f=>k (fr.put o.dst (.p v)) gs (some f)
  | .W=>False)
 | .iff c=>(match o.guard with
  | none=>False
  | some (j,w)=>(match q91 X o.op with
   | .P=>qx3 X (evG ops fr kn o.guard) (pkG ops fr kn o.guard) (some c) o.op fun v=>k (fr.put o.dst (.g j w v)) (j::gs) none
   | .R=>qx4 X (evG ops fr kn o.guard) (some c) o H fun v f=>k (fr.put o.dst (.g j w v)) (j::gs) (some f)
   | .W=>False))
def vcW (o:Oper)(kn:Kn)(gs:List Nat)(fr:Fr)(H:Heap)(k:Fr→Kn→List Nat→Heap→Prop):Prop:=
 if qgk ops (qzo o.guard gs) o.dst=false then False else
 match qkd ops fr kn 9 o.guard with
 | .bad=>False
 | .no=>k (fr.put o.dst (.p undef)) kn gs H
 | .yes=>qmy X (evG ops fr kn o.guard) o H fun v H'=>k (fr.put o.dst (.p v)) kn gs H'
 | .iff c=>(match o.guard with
  | none=>False
  | some (j,w)=>(c→qmy X (evG ops fr kn o.guard) o H fun v H'=>k (fr.put o.dst (.p v)) ((j,w,true)::kn) (j::gs) H')∧
   (¬c→k (fr.put o.dst (.p undef)) ((j,w,false)::kn) (j::gs) H))
def z4k (o:Oper)(c:Call)(r:List Oper)(fr:Fr)(k:List DM→Prop):Prop:=
 match o.guard,o.dst,r,c.callee,c.args.toList with
 | none,none,[],.value x,[]=>(match evG ops fr [] none x with
  | some (.func (.func g) ⟨[]⟩ ⟨cap⟩)=>k [.fn g cap]
  | _=>False)
 | _,_,_,_,_=>False
def qht (rd:Bool)(K:Fr→List DM→Heap→Prop):List Oper→Kn→List Nat→Fr→Heap→Prop
 | [],_,_,fr,H=>K (qhi fr) [] H
 | o::r,kn,gs,fr,H=>match o.op with
  | .defer c=>(match rd with
   | true=>z4k ops o c r fr fun M=>K (qhi fr) M H
   | false=>False)
  | op=>match q91 X op with
   | .W=>vcW X ops o kn gs fr H fun fr' kn' gs' H'=>qht rd K r kn' gs' fr' H'
   | _=>vcPR X ops o kn gs fr H fun fr' gs' _=>qht rd K r kn gs' fr' H
def qhu (acc:List Nat):List Edge→Nat→Nat
 | [],s=>s
 | e::r,s=>qhu acc r (if Region.binds .any e then s ||| 2 ^ e.on ||| (match lget acc e.on with|some m=>m|none=>0) else s)
def bfGo:List Oper→List Nat→List Nat
 | [],acc=>acc
 | o::r,acc=>bfGo r (acc++[qhu acc o.after.toList 0])
def bfB (B:List Nat)(j i:Nat):Bool:=match lget B j with|some m=>m.testBit i|none=>false
def q9j:List Nat→Option Nat
 | []=>none
 | i::r=>match lget ops.toList i with
  | some o=>(match q91 X o.op with|.W=>q9j r|_=>some i)
  | none=>q9j r
def allL:List Nat→(Nat→Prop)→Prop
 | [],_=>False
 | [i],f=>f i
 | i::r,f=>f i∧allL r f
def qgw:Pend→Heap→Prop→Prop
 | [],_,q=>q
 | (_,none)::r,H,q=>qgw r H q
 | (_,some f)::r,H,q=>f H∧qgw r H q
def qhv (B:List Nat)(i:Nat):Pend→Pend
 | []=>[]
 | x::r=>if bfB B i x.1 then qhv B i r else x::qhv B i r
def qn3:List Oper→Bool
 | []=>true
 | o::r=>(match o.op with|.defer _=>false|_=>true) && qn3 r
theorem qfr:∀{l:List Oper},qn3 l=true→∀o∈l,∀c,o.op≠.defer c
 | [],_,o,ho,_,_=>by cases ho
 | x::r,h,o,ho,c,hc=>by
  simp only [qn3,z8w] at h
  rcases z96.1 ho with rfl|ho
  ·rw [hc] at h; exact absurd h.1 (by simp)
  ·exact qfr h.2 o ho c hc
def ql0 (B:List Nat)(K:Fr→Heap→Prop):Nat→Array Bool→Pend→Kn→List Nat→Fr→Heap→Prop
 | 0,listed,_,_,_,fr,H=>(match Region.ready .any ops listed with|[]=>K (qhi fr) H|_=>False)
 | n+1,listed,pd,kn,gs,fr,H=>match q9j X ops (Region.ready .any ops listed) with
  | some i=>(match lget ops.toList i with
   | none=>False
   | some o=>if Region.free .any ops listed i=false then False else
    vcPR X ops o kn gs fr H fun fr' gs' f=>ql0 B K n (listed.setIfInBounds i true) ((i,f)::pd) kn gs' fr' H)
  | none=>allL (Region.ready .any ops listed) fun i=>(match lget ops.toList i with
   | none=>False
   | some o=>vcW X ops o kn gs fr H fun fr' kn' gs' H'=>qgw (qhv B i pd) H' (ql0 B K n (listed.setIfInBounds i true) (qhv B i pd) kn' gs' fr' H'))
end defs
structure RelG (ops:Array Oper)(fr:Fr)(kn:Kn)(gs:List Nat)(a:Act):Prop where
 size:a.tmps.size=fr.length
 pv:∀t v,lget fr t=some (.p v)→a.tmps[t]?=some v
 gv:∀t j w v,lget fr t=some (.g j w v)→j∈gs∧(yielded ops a.tmps j=some w→a.tmps[t]?=some v)∧(yielded ops a.tmps j≠some w→a.tmps[t]?=some undef)
 kn:∀x∈kn,x.1∈gs∧(yielded ops a.tmps x.1=some x.2.1↔x.2.2=true)
def q61 (ops:Array Oper)(g:Option (Nat × Bool))(a:Act):Prop:=match g with|none=>True|some (j,w)=>yielded ops a.tmps j=some w
section
variable {X:Ctx} {ops:Array Oper} {fr:Fr} {kn:Kn} {gs:List Nat} {a:Act}
theorem qpn (o:Oper):Region.wanted o (yielded ops a.tmps)=true↔q61 ops o.guard a:=by
 unfold Region.wanted q61
 cases o.guard with
 | none=>simp
 | some g=>simp
theorem qx7 (j:Nat):qbx ops j=(ops[j]?).bind (·.dst):=by
 unfold qbx;rw [q1d];simp only [Array.getElem?_toList]
 cases ops[j]? <;> rfl
theorem q31 {j d:Nat}(h:qbx ops j=some d):yielded ops a.tmps j=(match a.tmps[d]? with|some (.bool b)=>some b|_=>none):=by
 rw [qx7] at h;unfold yielded;rw [h]; rfl
theorem q9k {j:Nat}(h:qbx ops j=none):yielded ops a.tmps j=none:=by
 rw [qx7] at h;unfold yielded;rw [h]; rfl
theorem z4l (R:RelG ops fr kn gs a){j:Nat}{w b:Bool}:∀(l:Kn),(∀x∈l,x∈kn)→knOf l j w=some b→(yielded ops a.tmps j=some w↔b=true)∧j∈gs
 | [],_,h=>by simp [knOf] at h
 | (j',w',b')::r,hs,h=>by
  simp only [knOf] at h;obtain⟨hm,hx⟩:=R.kn _ (hs _ z98);simp only at hm hx;have ih:=z4l R r (fun x hx=>hs x (z99 _ hx)) (j:=j) (w:=w) (b:=b)
  split at h
  ·rename_i hj;have hj':j'=j:=zam hj;subst hj'
   split at h
   ·rename_i hw;have hw':w'=w:=by simpa using hw
    subst hw'
    cases h
    exact⟨hx,hm⟩
   ·rename_i hw
    split at h
    ·rename_i hb
     cases h
     have:=hx.2 hb;refine⟨⟨fun h1=>?_,fun h1=>by cases h1⟩,hm⟩
     rw [this] at h1;exfalso; apply hw; simpa using h1
    ·exact ih h
  ·exact ih h
theorem qpo (R:RelG ops fr kn gs a){j:Nat}{w b:Bool}(h:knOf kn j w=some b):(yielded ops a.tmps j=some w↔b=true)∧j∈gs:=
 z4l R kn (fun _ hx=>hx) h
theorem qen (R:RelG ops fr kn gs a):∀(n:Nat) (g:Option (Nat × Bool)),match qkd ops fr kn n g with
  | .yes=>q61 ops g a
  | .no=>¬q61 ops g a
  | .bad=>True
  | .iff c=>q61 ops g a↔c
 | n,none=>by cases n <;> simp [qkd,q61]
 | 0,some _=>by simp [qkd]
 | n+1,some (j,w)=>by
  simp only [qkd]
  cases hk:knOf kn j w with
  | some b=>
   have:=(qpo R hk).1
   cases b
   ·simp only [q61]; simp [this]
   ·simp only [q61]; simp [this]
  | none=>
   cases hd:qbx ops j with
   | none=>simp only [q61]; rw [q9k hd]; simp
   | some d=>
    cases hl:lget fr d with
    | none=>simp only [hl]
    | some s=>
     cases s with
     | x=>simp only [hl]
     | p v=>
      cases v with
      | bool c=>
       simp only [hl,q61];rw [q31 hd,R.pv _ _ hl];simp
      | tuple c=>
       simp only [hl,q61];rw [q31 hd,R.pv _ _ hl];simp
      | _=>simp only [hl]
     | g h w' v=>
      cases v <;> simp only [hl]
      rename_i c;obtain⟨_,h1,h2⟩:=R.gv _ _ _ _ hl;have ih:=qen R n (some (h,w'))
      cases hg:qkd ops fr kn n (some (h,w')) with
      | yes=>
       simp only [hg,q61] at ih ⊢;rw [q31 hd,h1 ih]; simp
      | no=>
       simp only [hg,q61] at ih ⊢;rw [q31 hd,h2 ih]; simp [undef]
      | bad=>simp only
      | iff p=>
       simp only [hg,q61] at ih ⊢;rw [q31 hd]
       by_cases hy:yielded ops a.tmps h=some w'
       ·rw [h1 hy]; simp [ih.1 hy]
       ·rw [h2 hy]; simp [undef];intro hp; exact absurd (ih.2 hp) hy
theorem qpp (R:RelG ops fr kn gs a){j:Nat}{w:Bool}:∀(n:Nat) (g:Option (Nat × Bool)),impl ops fr n g j w=true→q61 ops g a→yielded ops a.tmps j=some w
 | 0,_,h,_=>by simp [impl] at h
 | n+1,none,h,_=>by simp [impl] at h
 | n+1,some (j',w'),h,hg=>by
  simp only [impl,z97,z8w] at h
  rcases h with ⟨h1,h2⟩|h
  ·have e1:j'=j:=zam h1;have e2:w'=w:=by simpa using h2
   subst e1; subst e2;exact hg
  ·cases hd:qbx ops j' with
   | none=>simp [hd] at h
   | some d=>
    simp only [hd] at h
    cases hl:lget fr d with
    | none=>simp [hl] at h
    | some s=>
     cases s with
     | p v=>simp [hl] at h
     | x=>simp [hl] at h
     | g hh w'' v=>
      simp only [hl] at h;obtain⟨_,h1,h2⟩:=R.gv _ _ _ _ hl;refine qpp R n _ h ?_;simp only [q61] at hg ⊢
      by_cases hy:yielded ops a.tmps hh=some w''
      ·exact hy
      ·rw [q31 hd,h2 hy] at hg;simp [undef] at hg
theorem z4m (R:RelG ops fr kn gs a){gd:Option (Nat × Bool)}{j:Nat}{w:Bool}(h:heldB ops fr kn gd j w=true)(hg:q61 ops gd a):yielded ops a.tmps j=some w:=by
 unfold heldB at h
 cases hk:knOf kn j w with
 | some b=>rw [hk] at h; exact (qpo R hk).1.2 h
 | none=>rw [hk] at h; exact qpp R 9 gd h hg
theorem qgx {t:Nat}{v:Value}(h:a.tmps[t]?=some v):a.eval (.tmp t)=v:=by
 simp [Act.eval,zbg,h]
theorem q79 (R:RelG ops fr kn gs a){gd:Option (Nat × Bool)}(x:Operand)(v:Value)(h:evG ops fr kn gd x=some v)(hg:q61 ops gd a):a.eval x=v:=by
 cases x with
 | const u=>simp [evG] at h; subst h; rfl
 | global g=>simp [evG] at h; subst h; rfl
 | func f=>simp [evG] at h; subst h; rfl
 | tmp t=>
  simp only [evG] at h
  cases hl:lget fr t with
  | none=>simp [hl] at h
  | some s=>
   cases s with
   | p u=>simp [hl] at h; subst h; exact qgx (R.pv _ _ hl)
   | x=>simp [hl] at h
   | g j w u=>
    simp only [hl] at h
    split at h
    ·rename_i hh
     cases h
     exact qgx ((R.gv _ _ _ _ hl).2.1 (z4m R hh hg))
    ·cases h
theorem q8c (R:RelG ops fr kn gs a){gd:Option (Nat × Bool)}{side:Bool}{x y:Operand}{v:Value}(h:qbp ops fr kn gd side x y=some v)(hg:q61 ops gd a)(hx:a.eval x=.bool side):a.eval y=v:=by
 unfold qbp at h
 cases he:evG ops fr kn gd y with
 | some u=>rw [he] at h; cases h; exact q79 R y _ he hg
 | none=>
  rw [he] at h
  cases x <;> cases y <;> simp only at h <;> try cases h
  rename_i s t
  cases hl:lget fr t with
  | none=>simp [hl] at h
  | some sv=>
   cases sv with
   | p u=>simp [hl] at h
   | x=>simp [hl] at h
   | g j w u=>
    simp only [hl] at h
    cases hd:qbx ops j with
    | none=>simp [hd] at h
    | some d=>
     simp only [hd] at h
     split at h
     ·rename_i hc
      cases h
      simp only [z8w] at hc;have e1:d=s:=zam hc.1;have e2:w=side:=by simpa using hc.2
      subst e1; subst e2;refine qgx ((R.gv _ _ _ _ hl).2.1 ?_);rw [q31 hd];simp only [Act.eval,zbg] at hx
      cases ht:a.tmps[d]? with
      | none=>rw [ht] at hx; simp [undef] at hx
      | some u'=>rw [ht] at hx; simp at hx; subst hx; rfl
     ·cases h
theorem qpq (R:RelG ops fr kn gs a){t:Nat}{b c:Bool}(hc:a.tmps[t]?=some (.bool c)):∀(l:Kn),(∀x∈l,x∈kn)→qhs ops l t=some b→c=b
 | [],_,h=>by simp [qhs] at h
 | (j,w,b')::r,hs,h=>by
  simp only [qhs] at h;have ih:=qpq R hc r (fun x hx=>hs x (z99 _ hx)) (b:=b)
  cases hd:qbx ops j with
  | none=>simp only [hd] at h; exact ih h
  | some d=>
   simp only [hd] at h
   split at h
   ·rename_i hb;have e1:d=t:=zam hb;subst e1;have:=(R.kn _ (hs _ z98)).2;simp only at this;rw [q31 hd,hc] at this
    cases w <;> cases b' <;> cases c <;> simp at this h ⊢ <;> simp [← h]
   ·exact ih h
theorem qhw (R:RelG ops fr kn gs a){t:Nat}{b c:Bool}(h:qhs ops kn t=some b)(hc:a.tmps[t]?=some (.bool c)):c=b:=
 qpq R hc kn (fun _ hx=>hx) h
theorem qx8 (R:RelG ops fr kn gs a){gd:Option (Nat × Bool)}(x y z:Operand)(r:Bool × Value × Value)(h:pkG ops fr kn gd x y z=some r)(hg:q61 ops gd a) :
  a.eval x=.bool r.1∧(r.1=true→a.eval y=r.2.1)∧(r.1=false→a.eval z=r.2.2):=by
 unfold pkG at h
 cases he:evG ops fr kn gd x with
 | none=>simp [he] at h
 | some u=>
  have hx:=q79 R x u he hg
  cases u <;> simp only [he] at h <;> try cases h
  rename_i c
  split at h
  ·rename_i hk;have hc:c=true:=by
    cases x <;> simp only at hk <;> try cases hk
    rename_i t;refine qhw R hk ?_;simp only [Act.eval,zbg] at hx
    cases ht:a.tmps[t]? with
    | none=>rw [ht] at hx; simp [undef] at hx
    | some u'=>rw [ht] at hx; simp at hx; subst hx; rfl
   subst hc
   cases hs:qbp ops fr kn gd true x y with
   | none=>simp [hs] at h
   | some v=>simp [hs] at h; subst h; exact⟨hx,fun _=>q8c R hs hg hx,fun h=>by cases h⟩
  ·rename_i hk;have hc:c=false:=by
    cases x <;> simp only at hk <;> try cases hk
    rename_i t;refine qhw R hk ?_;simp only [Act.eval,zbg] at hx
    cases ht:a.tmps[t]? with
    | none=>rw [ht] at hx; simp [undef] at hx
    | some u'=>rw [ht] at hx; simp at hx; subst hx; rfl
   subst hc
   cases hs:qbp ops fr kn gd false x z with
   | none=>simp [hs] at h
   | some v=>simp [hs] at h; subst h; exact⟨hx,fun h=>(by cases h),fun _=>q8c R hs hg hx⟩
  ·cases hs:qbp ops fr kn gd true x y with
   | none=>simp [hs] at h
   | some v=>cases hs':qbp ops fr kn gd false x z with
    | none=>simp [hs,hs'] at h
    | some v'=>
     simp [hs,hs'] at h; subst h;exact⟨hx,fun hc=>q8c R hs hg (by rw [hx]; simp at hc; rw [hc]),fun hc=>q8c R hs' hg (by rw [hx]; simp at hc; rw [hc])⟩
end
open Go
structure Rel (fr:Fr)(a:Act):Prop where
 size:a.tmps.size=fr.length
 pv:∀t v,lget fr t=some (.p v)→a.tmps[t]?=some v
 ng:∀t j w v,lget fr t≠some (.g j w v)
section
variable {X:Ctx} {ops:Array Oper} {fr:Fr} {kn:Kn} {gs:List Nat} {a:Act}
theorem ql1:∀{gs:List Nat} {t:Tmp},qgk ops gs (some t)=true→∀j∈gs,qbx ops j≠some t
 | [],_,_,_,hj=>by cases hj
 | j::r,t,h,k,hk=>by
  simp only [qgk,z8w] at h
  rcases z96.1 hk with rfl|hk
  ·intro hd;rw [hd] at h;simp at h
  ·exact ql1 h.2 k hk
theorem qaq (a:Act)(t:Tmp)(u:Value):(a.put (some t) u).tmps=a.tmps.setIfInBounds t u:=rfl
theorem q4z {d:Option Tmp}(u:Value)(h:qgk ops gs d=true){j:Nat}(hj:j∈gs):yielded ops (a.put d u).tmps j=yielded ops a.tmps j:=by
 cases d with
 | none=>rfl
 | some t=>
  have hne:=ql1 h j hj
  cases hd:qbx ops j with
  | none=>rw [q9k hd,q9k hd]
  | some s=>
   have:s≠t:=fun e=>hne (by rw [hd,e])
   rw [q31 hd,q31 hd,qaq];rw [Array.getElem?_setIfInBounds,if_neg (fun e=>this e.symm)]
theorem ql2 {d:Option Tmp}{g:Option (Nat × Bool)}(h:qgk ops (qzo g gs) d=true):qgk ops gs d=true:=by
 cases g with
 | none=>exact h
 | some x=>
  obtain⟨j,w⟩:=x
  cases d with
  | none=>cases gs <;> rfl
  | some t=>simp only [qzo,qgk,z8w] at h; exact h.2
theorem q3c {α:Type}(l:List α)(n m:Nat)(x:α):lget (lset l n x) m=if n=m∧n < l.length then some x else lget l m:=by
 rw [q1d,qtp,q1d,List.getElem?_set]
 by_cases h:n=m
 ·subst h
  by_cases h2:n < l.length
  ·simp [h2]
  ·simp [h2]
 ·simp [h]
theorem q41 {α:Type}(l:List α)(n:Nat)(x:α):(lset l n x).length=l.length:=by rw [qtp]; simp
theorem q6i {d:Option Tmp}{u:Value}{s:SV}{gs':List Nat}(R:RelG ops fr kn gs a)(hok:qgk ops gs' d=true)(hsub:∀j∈gs,j∈gs')
  (hs:s=.p u∨∃j w v,s=.g j w v∧j∈gs'∧(yielded ops a.tmps j=some w→u=v)∧(yielded ops a.tmps j≠some w→u=undef)):RelG ops (fr.put d s) kn gs' (a.put d u):=by
 cases d with
 | none=>
  exact⟨R.size,R.pv,fun t j w v h=>by obtain⟨h1,h2⟩:=R.gv t j w v h; exact⟨hsub _ h1,h2⟩,fun x hx=>by obtain⟨h1,h2⟩:=R.kn x hx; exact⟨hsub _ h1,h2⟩⟩
 | some t=>
  have hsz:(a.put (some t) u).tmps.size=(fr.put (some t) s).length:=by
   rw [qaq]; simp only [Fr.put]; rw [q41,Array.size_setIfInBounds]; exact R.size
  have hget:∀m,(a.put (some t) u).tmps[m]?=if t=m∧t < fr.length then some u else a.tmps[m]?:=by
   intro m;rw [qaq,Array.getElem?_setIfInBounds,← R.size]
   by_cases h:t=m
   ·subst h
    by_cases h2:t < a.tmps.size
    ·simp [h2]
    ·simp [h2]
   ·simp [h]
  refine⟨hsz,fun m v h=>?_,fun m j w v h=>?_,fun x hx=>?_⟩
  ·simp only [Fr.put] at h;rw [q3c] at h;rw [hget]
   split at h
   ·rename_i hc;rw [if_pos hc]
    cases h
    rcases hs with hs|⟨j,w,v',hs,_⟩
    ·cases hs; rfl
    ·cases hs
   ·rename_i hc;rw [if_neg hc];exact R.pv _ _ h
  ·simp only [Fr.put] at h;rw [q3c] at h;rw [hget]
   split at h
   ·rename_i hc;rw [if_pos hc]
    cases h
    rcases hs with hs|⟨j',w',v',hs,hj,h1,h2⟩
    ·cases hs
    ·cases hs
     refine⟨hj,fun hy=>?_,fun hy=>?_⟩
     ·rw [q4z u hok hj] at hy; rw [h1 hy]
     ·rw [q4z u hok hj] at hy; rw [h2 hy]
   ·rename_i hc;rw [if_neg hc];obtain⟨h1,h2⟩:=R.gv _ _ _ _ h;rw [q4z u hok (hsub _ h1)];exact⟨hsub _ h1,h2⟩
  ·obtain⟨h1,h2⟩:=R.kn x hx;rw [q4z u hok (hsub _ h1)];exact⟨hsub _ h1,h2⟩
theorem qx9 {j:Nat}{w b:Bool}(R:RelG ops fr kn gs a)(hj:j∈gs)(h:yielded ops a.tmps j=some w↔b=true):RelG ops fr ((j,w,b)::kn) gs a:=
 ⟨R.size,R.pv,R.gv,fun x hx=>by
  rcases z96.1 hx with rfl|hx
  ·exact⟨hj,h⟩
  ·exact R.kn x hx⟩
theorem qcy (a:Act)(f:FuncId):a.eval (.func f)=.func (.func f) #[] #[]:=rfl
theorem q2q {c:Prop}[Decidable c]{q:Prop}(h:if c then False else q):¬c∧q:=by
 split at h
 ·exact h.elim
 ·rename_i hc; exact⟨hc,h⟩
theorem ql3 {o:Oper}{H:Heap}{k:Fr→List Nat→Option (Heap→Prop)→Prop}(hX:∀f,memN f X.calls=true→q3b X.P f)(R:RelG ops fr kn gs a)
  (h:vcPR X ops o kn gs fr H k):∃v f fr' gs',k fr' gs' f∧q92 X.P ops o v f a∧qtu f H∧RelG ops fr' kn gs' (a.put o.dst v):=by
 unfold vcPR at h;obtain⟨hok,h⟩:=q2q h;have hok':qgk ops (qzo o.guard gs) o.dst=true:=by simpa using hok
 have hok1:=ql2 hok';have hw:=qpn (ops:=ops) (a:=a) o;have hgc:=qen R 9 o.guard
 cases hg:qkd ops fr kn 9 o.guard with
 | bad=>simp [hg] at h
 | no=>
  simp only [hg] at h hgc;refine⟨undef,none,_,_,h,⟨fun hwn=>absurd (hw.1 hwn) hgc,fun _=>rfl⟩,trivial,q6i R hok1 (fun _ hj=>hj) (.inl rfl)⟩
 | yes=>
  simp only [hg] at h hgc;have hwn:Region.wanted o (yielded ops a.tmps)=true:=hw.2 hgc;have hev:∀x v,evG ops fr kn o.guard x=some v→True→a.eval x=v:=fun x v hx _=>q79 R x v hx hgc
  cases hk:q91 X o.op with
  | P=>
   simp only [hk] at h;obtain⟨v,h1,h2⟩:=qkw (P:=X.P) (G:=True) (c:=none) o (fun p hp _=>hp) hev (fun b c d r hr _=>qx8 R b c d r hr hgc) rfl h
   exact⟨v,none,_,_,h1,⟨fun _ w _=>q2z (h2 trivial w),fun hn=>by rw [hwn] at hn; cases hn⟩,trivial,q6i R hok1 (fun _ hj=>hj) (.inl rfl)⟩
  | R=>
   simp only [hk] at h;obtain⟨v,f,h1,h0,h2,h3⟩:=qky (G:=True) (c:=none) o (fun p hp _=>hp) hev hX (qcy a) h
   exact⟨v,some f,_,_,h1,⟨fun _ w hf=>h3 trivial w hf,fun hn=>by rw [hwn] at hn; cases hn⟩,h2 trivial,q6i R hok1 (fun _ hj=>hj) (.inl rfl)⟩
  | W=>simp [hk] at h
 | iff c=>
  simp only [hg] at h hgc
  cases hgd:o.guard with
  | none=>simp [hgd] at h
  | some x=>
   obtain⟨j,w⟩:=x;rw [hgd] at h hgc hw hok';simp only at h;have hev:∀x v,evG ops fr kn (some (j,w)) x=some v→q61 ops (some (j,w)) a→a.eval x=v:=fun x v hx hgv=>q79 R x v hx hgv
   have hgt:∀p,gt (some c) p→q61 ops (some (j,w)) a→p:=fun p hp hgv=>hp (hgc.1 hgv)
   cases hk:q91 X o.op with
   | P=>
    simp only [hk] at h;obtain⟨v,h1,h2⟩:=qkw (P:=X.P) (G:=q61 ops (some (j,w)) a) (c:=some c) o hgt hev (fun b c d r hr hgv=>qx8 R b c d r hr hgv) rfl h
    by_cases hwn:Region.wanted o (yielded ops a.tmps)=true
    ·refine⟨v,none,_,_,h1,⟨fun _ w' _=>q2z (h2 (hw.1 hwn) w'),fun hn=>by rw [hwn] at hn; cases hn⟩,trivial,q6i R hok' (fun _ hj=>z99 _ hj) (.inr ⟨j,w,v,rfl,z98,fun _=>rfl,fun hy=>absurd (hw.1 hwn) hy⟩)⟩
    ·refine⟨undef,none,_,_,h1,⟨fun hn=>absurd hn hwn,fun _=>rfl⟩,trivial,q6i R hok' (fun _ hj=>z99 _ hj) (.inr ⟨j,w,v,rfl,z98,fun hy=>absurd (hw.2 hy) hwn,fun _=>rfl⟩)⟩
   | R=>
    simp only [hk] at h;obtain⟨v,f,h1,h0,h2,h3⟩:=qky (G:=q61 ops (some (j,w)) a) (c:=some c) o hgt hev hX (qcy a) h
    by_cases hwn:Region.wanted o (yielded ops a.tmps)=true
    ·refine⟨v,some f,_,_,h1,⟨fun _ w' hf=>h3 (hw.1 hwn) w' hf,fun hn=>by rw [hwn] at hn; cases hn⟩,h2 (hw.1 hwn),q6i R hok' (fun _ hj=>z99 _ hj) (.inr ⟨j,w,v,rfl,z98,fun _=>rfl,fun hy=>absurd (hw.1 hwn) hy⟩)⟩
    ·refine⟨undef,some f,_,_,h1,⟨fun hn=>absurd hn hwn,fun _=>rfl⟩,h0 c rfl (fun hc=>hwn (hw.2 (hgc.2 hc))) H,q6i R hok' (fun _ hj=>z99 _ hj) (.inr ⟨j,w,v,rfl,z98,fun hy=>absurd (hw.2 hy) hwn,fun _=>rfl⟩)⟩
   | W=>simp [hk] at h
theorem qpr {o:Oper}{H:Heap}{k:Fr→Kn→List Nat→Heap→Prop}(hX:∀f,memN f X.calls=true→q3b X.P f)(R:RelG ops fr kn gs a)
  (h:vcW X ops o kn gs fr H k):∀w,w.heap=H→if Region.wanted o (yielded ops a.tmps) then Good X.P w X.kp (fun v H'=>∃fr' kn' gs',k fr' kn' gs' H'∧RelG ops fr' kn' gs' (a.put o.dst v)) ((execOp a.eval o).run X.P w)
   else ∃fr' kn' gs',k fr' kn' gs' H∧RelG ops fr' kn' gs' (a.put o.dst undef):=by
 intro w hwH;unfold vcW at h;obtain⟨hok,h⟩:=q2q h;have hok':qgk ops (qzo o.guard gs) o.dst=true:=by simpa using hok
 have hok1:=ql2 hok';have hw:=qpn (ops:=ops) (a:=a) o;have hgc:=qen R 9 o.guard
 cases hg:qkd ops fr kn 9 o.guard with
 | bad=>simp [hg] at h
 | no=>
  simp only [hg] at h hgc;rw [if_neg (fun hwn=>hgc (hw.1 hwn))]
  exact⟨_,_,_,h,q6i R hok1 (fun _ hj=>hj) (.inl rfl)⟩
 | yes=>
  simp only [hg] at h hgc;rw [if_pos (hw.2 hgc)];refine (qhp (X:=X) o (fun x v hx=>q79 R x v hx hgc) hX (qcy a) h w hwH).mono fun v H' hk=>?_
  exact⟨_,_,_,hk,q6i R hok1 (fun _ hj=>hj) (.inl rfl)⟩
 | iff c=>
  simp only [hg] at h hgc
  cases hgd:o.guard with
  | none=>simp [hgd] at h
  | some x=>
   obtain⟨j,w'⟩:=x;rw [hgd] at h hgc hw hok';simp only at h
   by_cases hwn:Region.wanted o (yielded ops a.tmps)=true
   ·rw [if_pos hwn];have hy:=hw.1 hwn;refine (qhp (X:=X) o (fun x v hx=>q79 R x v hx hy) hX (qcy a) (h.1 (hgc.1 hy)) w hwH).mono fun v H' hk=>?_
    refine⟨_,_,_,hk,qx9 (q6i R hok' (fun _ hj=>z99 _ hj) (.inl rfl)) z98 ?_⟩
    rw [q4z v hok' z98];exact⟨fun _=>rfl,fun _=>hy⟩
   ·rw [if_neg hwn];have hn:¬c:=fun hc=>hwn (hw.2 (hgc.2 hc))
    refine⟨_,_,_,h.2 hn,qx9 (q6i R hok' (fun _ hj=>z99 _ hj) (.inl rfl)) z98 ?_⟩
    rw [q4z undef hok' z98];exact⟨fun hy=>absurd (hw.2 hy) hwn,fun hb=>by cases hb⟩
theorem qn4 {α β:Type}(f:α→β)(l:List α)(n:Nat):lget (l.map f) n=(lget l n).map f:=by
 rw [q1d,q1d]; simp
theorem qn5 (R:RelG ops fr kn gs a):Rel (qhi fr) a:=by
 refine⟨by rw [R.size]; simp [qhi],fun t v h=>?_,fun t j w v h=>?_⟩
 ·unfold qhi at h;rw [qn4] at h
  cases hl:lget fr t with
  | none=>simp [hl] at h
  | some s=>
   cases s <;> simp [hl] at h
   subst h;exact R.pv _ _ hl
 ·unfold qhi at h;rw [qn4] at h
  cases hl:lget fr t with
  | none=>simp [hl] at h
  | some s=>cases s <;> simp [hl] at h
theorem q7r (R:Rel fr a):RelG ops fr [] [] a:=
 ⟨R.size,R.pv,fun t j w v h=>absurd h (R.ng t j w v),fun x hx=>by cases hx⟩
theorem z4n {P:Program}{o:Oper}{c:Call}{x:Operand}{ρ:Operand→Value}{g:FuncId}{cap:List Value}{w:World}(ho:o.op=.defer c)(hc:c.callee=.value x)(ha:c.args.toList=[])
  (hx:ρ x=.func (.func g) ⟨[]⟩ ⟨cap⟩):(execOp ρ o).run P w=.ok (.defer { target:=.fn (.func g) ⟨cap⟩,args:=#[] }) w:=by
 have ha':c.args=#[]:=by apply Array.ext'; simpa using ha
 simp [execOp,ho,resolve,hc,ha',hx,Deferred.ofValue]
theorem q7s {K:Fr→List DM→Heap→Prop}{Q:Exit→Act→World→Prop}{w0:World}{ro:Option Nat}(hX:∀f,memN f X.calls=true→q3b X.P f){Inv:Act→Prop}(hInv:∀a o v,o∈ops.toList→Inv a→Inv (a.put o.dst v))
  (hQ:∀fr a w,Rest w0 w→Rel fr a→K fr [] w.heap→Inv a→Q .normal a w) (hQd:∀fr a w g cap,ro=none→Rest w0 w→Rel fr a→K fr [.fn g cap] w.heap→Inv a→Q .normal { a with defers:={ target:=.fn (.func g) ⟨cap⟩,args:=#[] }::a.defers } w)
  (hP:∀v a w,Rest w0 w→Inv a→X.kp v w.heap→Q (.panic [{ v,recovered:=false }]) a w):∀(l:List Oper) (kn:Kn) (gs:List Nat) (fr:Fr) (a:Act) (w:World),(∀o∈l,o∈ops.toList)→Inv a→
  RelG ops fr kn gs a→Rest w0 w→qht X ops ro.isNone K l kn gs fr w.heap→wpListIn (FR ro) 0 X.P ops Q l a w
 | [],kn,gs,fr,a,w,hl,ha,R,hr,h=>hQ _ _ _ hr (qn5 R) h ha
 | o::r,kn,gs,fr,a,w,hl,ha,R,hr,h=>by
  have hl':∀o∈r,o∈ops.toList:=fun o ho=>hl o (z99 _ ho)
  have ha':∀v,Inv (a.put o.dst v):=fun v=>hInv a o v (hl o z98) ha
  by_cases hdef:∃c,o.op=.defer c
  ·obtain⟨c,hc⟩:=hdef;simp only [qht,hc] at h
   cases ro with
   | some l0=>exact h.elim
   | none=>
    simp only [Option.isNone_none] at h;unfold z4k at h
    split at h
    case h_2=>exact h.elim
    rename_i x hg hd0 hcal hargs
    split at h
    case h_2=>exact h.elim
    rename_i g cap hev;have R0:=q7r (ops:=ops) (qn5 R);have hx:a.eval x=.func (.func g) ⟨[]⟩ ⟨cap⟩:=by
     cases x with
     | const u=>simp [evG] at hev; subst hev; rfl
     | global g=>simp [evG] at hev
     | func f=>simp [evG] at hev; obtain⟨rfl,rfl⟩:=hev; rfl
     | tmp t=>
      simp only [evG] at hev
      cases hl2:lget fr t with
      | none=>simp [hl2] at hev
      | some s=>
       cases s with
       | p u=>simp [hl2] at hev; subst hev; exact qgx (R.pv _ _ hl2)
       | x=>simp [hl2] at hev
       | g j w' u=>
        simp only [hl2] at hev
        split at hev
        ·rename_i hh
         cases hev
         exact absurd hh (by simp [heldB,knOf,impl])
        ·cases hev
    unfold wpListIn;rw [if_pos (by simp [Region.wanted,hg])];refine⟨fun f _=>trivial,?_⟩
    have e1:(o.semAt (FR none).round a.eval)=execOp a.eval o:=rfl;rw [e1,z4n hc hcal hargs hx,Oper.uponIn_defer,hd0];exact hQd _ _ _ g cap rfl hr (qn5 R) h ha
  have hnd:∀c,o.op≠.defer c:=fun c hc=>hdef ⟨c,hc⟩
  have hseq:qht X ops ro.isNone K (o::r) kn gs fr w.heap=(match q91 X o.op with
   | .W=>vcW X ops o kn gs fr w.heap fun fr' kn' gs' H'=>qht X ops ro.isNone K r kn' gs' fr' H'
   | _=>vcPR X ops o kn gs fr w.heap fun fr' gs' _=>qht X ops ro.isNone K r kn gs' fr' w.heap):=by
   rw [qht]
   split
   ·rename_i c hc; exact absurd hc (hnd c)
   ·rfl
  rw [hseq] at h;have pr:∀hk:vcPR X ops o kn gs fr w.heap fun fr' gs' _=>qht X ops ro.isNone K r kn gs' fr' w.heap,wpListIn (FR ro) 0 X.P ops Q (o::r) a w:=by
   intro hk;obtain⟨v,f,fr',gs',h1,h2,h3,h4⟩:=ql3 hX R hk;unfold wpListIn
   split
   ·rename_i hwn;refine qem hnd hr (K:=fun v' H'=>v'=v∧H'=w.heap) (fun u w' hr' hu=>?_) (fun _ _ _ hf=>hf.elim) (h2.1 hwn w h3)
    obtain⟨rfl,hh⟩:=hu;exact q7s hX hInv hQ hQd hP r kn gs' fr' _ w' hl' (ha' _) h4 hr' (by rw [hh]; exact h1)
   ·rename_i hwn;rw [← h2.2 (by simpa using hwn)];exact⟨fun f _=>trivial,q7s hX hInv hQ hQd hP r kn gs' fr' _ w hl' (ha' _) h4 hr h1⟩
  cases hk:q91 X o.op with
  | P=>simp only [hk] at h; exact pr h
  | R=>simp only [hk] at h; exact pr h
  | W=>
   simp only [hk] at h;have h1:=qpr hX R h w rfl;unfold wpListIn
   split
   ·rename_i hwn;rw [if_pos hwn] at h1;refine qem hnd hr (fun u w' hr' hu=>?_) (fun v w' hr' hk=>hP v a w' hr' ha hk) h1
    obtain⟨fr',kn',gs',h2,h3⟩:=hu;exact q7s hX hInv hQ hQd hP r kn' gs' fr' _ w' hl' (ha' _) h3 hr' h2
   ·rename_i hwn;rw [if_neg hwn] at h1;obtain⟨fr',kn',gs',h2,h3⟩:=h1;exact⟨fun f _=>trivial,q7s hX hInv hQ hQd hP r kn' gs' fr' _ w hl' (ha' _) h3 hr h2⟩
theorem qhx (acc:List Nat):∀(es:List Edge) (s i:Nat),(qhu acc es s).testBit i=true→s.testBit i=true∨∃e∈es,Region.binds .any e=true∧(e.on=i∨∃m,lget acc e.on=some m∧m.testBit i=true)
 | [],s,i,h=>.inl h
 | e::r,s,i,h=>by
  simp only [qhu] at h
  rcases qhx acc r _ i h with h1|⟨e',he',h2⟩
  ·split at h1
   ·rename_i hb;rw [Nat.testBit_or,Nat.testBit_or,z97,z97] at h1
    rcases h1 with (h1|h1)|h1
    ·exact .inl h1
    ·refine .inr ⟨e,z98,hb,.inl ?_⟩;rw [Nat.testBit_two_pow] at h1;simpa using h1
    ·cases hl:lget acc e.on with
     | none=>simp [hl] at h1
     | some m=>simp only [hl] at h1; exact .inr ⟨e,z98,hb,.inr ⟨m,hl,h1⟩⟩
   ·exact .inl h1
  ·exact .inr ⟨e',z99 _ he',h2⟩
theorem qps:∀(r:List Oper) (acc:List Nat) (j:Nat),acc.length≤j→∀o,r[j - acc.length]?=some o→
  ∃acc',acc'.length=j∧lget (bfGo r acc) j=some (qhu acc' o.after.toList 0)∧∀k,k < j→lget acc' k=lget (bfGo r acc) k
 | [],acc,j,_,o,h=>by simp at h
 | o'::r,acc,j,hj,o,h=>by
  have pre:∀(r:List Oper) (acc:List Nat) (k:Nat),k < acc.length→lget (bfGo r acc) k=lget acc k:=by
   intro r
   induction r with
   | nil=>intro acc k _; rfl
   | cons x r ih=>
    intro acc k hk;simp only [bfGo];rw [ih _ k (by simp; omega),q1d,q1d,List.getElem?_append_left hk]
  by_cases h0:j=acc.length
  ·subst h0;simp at h;subst h;refine⟨acc,rfl,?_,fun k hk=>?_⟩
   ·simp only [bfGo];rw [pre r _ acc.length (by simp),q1d,List.getElem?_append_right (z91 _)];simp
   ·simp only [bfGo];rw [pre r _ k (by simp; omega),q1d,q1d,List.getElem?_append_left hk]
  ·simp only [bfGo];refine qps r (acc++[qhu acc o'.after.toList 0]) j (by simp; omega) o ?_;rw [← h];have:j - acc.length=(j - (acc++[qhu acc o'.after.toList 0]).length)+1:=by simp; omega
   rw [this,List.getElem?_cons_succ]
theorem bf_ok (ops:Array Oper):BfOk ops (bfB (bfGo ops.toList [])):=by
 intro j oj hj i hi;have hj':ops.toList[j]?=some oj:=by simpa using hj
 obtain⟨acc',hl,h1,h2⟩:=qps ops.toList [] j (by simp) oj (by simpa using hj');unfold bfB at hi;rw [h1] at hi
 rcases qhx acc' _ 0 i hi with h3|⟨e,he,hb,h3⟩
 ·simp at h3
 ·refine⟨e,by simpa using he,hb,h3.imp id ?_⟩;rintro⟨m,hm,hbit⟩;have hlt:e.on < j:=by
   rw [q1d] at hm;have:=(List.getElem?_eq_some_iff.1 hm).1;omega
  refine⟨hlt,?_,?_⟩
  ·unfold bfB;rw [← h2 _ hlt,hm]; exact hbit
  ·have hjs:=(Array.getElem?_eq_some_iff.1 hj).1;simp [show e.on < ops.size by omega]
theorem qpt (B:List Nat)(i:Nat):∀pd:Pend,qhv B i pd=pd.filter (fun x=>!bfB B i x.1)
 | []=>rfl
 | x::r=>by
  simp only [qhv,z9x]
  cases h:bfB B i x.1 <;> simp [qpt B i r]
theorem q62:∀(pd:Pend) (H:Heap) (q:Prop),qgw pd H q→(∀x∈pd,qtu x.2 H)∧q
 | [],_,_,h=>⟨fun x hx=>(by cases hx),h⟩
 | (i,none)::r,H,q,h=>by
  obtain⟨h1,h2⟩:=q62 r H q h;exact⟨fun x hx=>by rcases z96.1 hx with rfl|hx; exact trivial; exact h1 x hx,h2⟩
 | (i,some f)::r,H,q,h=>by
  obtain⟨h1,h2⟩:=q62 r H q h.2;exact⟨fun x hx=>by rcases z96.1 hx with rfl|hx; exact h.1; exact h1 x hx,h2⟩
theorem qpu {f:Nat→Prop}:∀{l:List Nat},allL l f→l≠[]∧∀i∈l,f i
 | [],h=>h.elim
 | [i],h=>⟨by simp,fun j hj=>by simp at hj; subst hj; exact h⟩
 | i::j::r,h=>by
  have h':f i∧allL (j::r) f:=h;obtain⟨_,h2⟩:=qpu h'.2;exact⟨by simp,fun k hk=>by rcases z96.1 hk with rfl|hk; exact h'.1; exact h2 k hk⟩
def isWB (X:Ctx)(ops:Array Oper)(i:Nat):Bool:=match lget ops.toList i with|some o=>(match q91 X o.op with|.W=>true|_=>false)|none=>false
theorem q9l:∀{l:List Nat} {i:Nat},q9j X ops l=some i→i∈l∧isWB X ops i=false
 | [],_,h=>by cases h
 | j::r,i,h=>by
  simp only [q9j] at h
  cases hl:lget ops.toList j with
  | none=>simp only [hl] at h; obtain⟨h1,h2⟩:=q9l h; exact⟨z99 _ h1,h2⟩
  | some o=>
   simp only [hl] at h
   cases hk:q91 X o.op with
   | W=>simp only [hk] at h; obtain⟨h1,h2⟩:=q9l h; exact⟨z99 _ h1,h2⟩
   | P=>simp only [hk] at h; cases h; exact⟨z98,by simp [isWB,hl,hk]⟩
   | R=>simp only [hk] at h; cases h; exact⟨z98,by simp [isWB,hl,hk]⟩
theorem q9m:∀{l:List Nat},q9j X ops l=none→∀i∈l,∀o,lget ops.toList i=some o→isWB X ops i=true
 | [],_,i,hi,_,_=>by cases hi
 | j::r,h,i,hi,o,ho=>by
  simp only [q9j] at h
  cases hl:lget ops.toList j with
  | none=>
   simp only [hl] at h
   rcases z96.1 hi with rfl|hi
   ·rw [ho] at hl; cases hl
   ·exact q9m h i hi o ho
  | some o'=>
   simp only [hl] at h
   cases hk:q91 X o'.op with
   | W=>
    simp only [hk] at h
    rcases z96.1 hi with rfl|hi
    ·simp [isWB,hl,hk]
    ·exact q9m h i hi o ho
   | P=>simp [hk] at h
   | R=>simp [hk] at h
theorem qar {K:Fr→Heap→Prop}{w0:World}(hX:∀f,memN f X.calls=true→q3b X.P f)(hs:Region.noSelect ops=true){Inv:Act→Prop}(hInv:∀a o v,o∈ops.toList→Inv a→Inv (a.put o.dst v)) :
  ∀(n:Nat) (listed:Array Bool) (pd:Pend) (kn:Kn) (gs:List Nat) (fr:Fr) (H:Heap) (a:Act),qhr ops listed→(∀x∈pd,qtu x.2 H)→RelG ops fr kn gs a→Inv a→
  ql0 X ops (bfGo ops.toList []) K n listed pd kn gs fr H→
  qhq X.P w0 X.kp ops (isWB X ops) (bfB (bfGo ops.toList [])) (fun a' H'=>(∃fr',Rel fr' a'∧K fr' H')∧Inv a') n pd listed a H
 | 0,listed,pd,kn,gs,fr,H,a,hc,hp,R,ha,h=>by
  simp only [ql0] at h
  split at h
  ·rename_i he;exact⟨hp,he,⟨_,qn5 R,h⟩,ha⟩
  ·exact h.elim
 | n+1,listed,pd,kn,gs,fr,H,a,hc,hp,R,ha,h=>by
  simp only [ql0] at h
  cases hf:q9j X ops (Region.ready .any ops listed) with
  | some i=>
   simp only [hf] at h;obtain⟨hi,hiw⟩:=q9l hf
   cases hl:lget ops.toList i with
   | none=>simp [hl] at h
   | some o=>
    simp only [hl] at h;obtain⟨hfree,h⟩:=q2q h;obtain⟨v,f,fr',gs',h1,h2,h3,h4⟩:=ql3 hX R h;have hio:ops[i]?=some o:=by rw [q1d] at hl; simpa using hl
    have ha':∀v,Inv (a.put o.dst v):=fun v=>hInv a o v (by rw [q1d] at hl; exact z9i hl) ha
    refine first_R (bf_ok ops) hs hio hiw n pd listed a H hc (Region.free_spec hio (by simpa using hfree)) hi h2 ?_;exact qar hX hs hInv n _ _ kn gs' fr' H _ (hc.set hi) (fun x hx=>by rcases z96.1 hx with rfl|hx; exact h3; exact hp x hx) h4 (ha' _) h1
  | none=>
   simp only [hf] at h;obtain⟨hne,hall⟩:=qpu h;refine⟨hp,fun h0=>absurd h0 hne,fun i hi w hwH hr=>?_⟩
   have hi':=hall i hi
   cases hl:lget ops.toList i with
   | none=>simp [hl] at hi'
   | some o=>
    simp only [hl] at hi';have hio:ops[i]?=some o:=by rw [q1d] at hl; simpa using hl
    have ha':∀v,Inv (a.put o.dst v):=fun v=>hInv a o v (by rw [q1d] at hl; exact z9i hl) ha
    have hiw:=q9m hf i hi o hl;have hsh:qbo (isWB X ops) (bfB (bfGo ops.toList [])) i pd=qhv (bfGo ops.toList []) i pd:=by unfold qbo; rw [if_pos hiw,qpt]
    have h1:=qpr hX R hi' w hwH;simp only [hio]
    split
    ·rename_i hwn;rw [if_pos hwn] at h1;refine h1.mono fun v H' hk=>?_
     obtain⟨fr',kn',gs',h2,h3⟩:=hk;obtain⟨h4,h5⟩:=q62 _ _ _ h2;rw [hsh];exact qar hX hs hInv n _ _ kn' gs' fr' H' _ (hc.set hi) h4 h3 (ha' _) h5
    ·rename_i hwn;rw [if_neg hwn] at h1;obtain⟨fr',kn',gs',h2,h3⟩:=h1;obtain⟨h4,h5⟩:=q62 _ _ _ h2;rw [hsh];exact qar hX hs hInv n _ _ kn' gs' fr' H _ (hc.set hi) h4 h3 (ha' _) h5
end
open Go
def Leaf.fits:Leaf→Value→Bool
 | .int k,.int k' _=>k=k'
 | .bool,.bool _=>true
 | .str,.string _=>true
 | .ptr,.pointer _=>true
 | .slice,.slice _ _ _=>true
 | .map,.map _=>true
 | .raw,_=>true
 | .fnv,.func (.func _) ⟨[]⟩ _=>true
 | .adr,.pointer (some ⟨_,_,none⟩)=>true
 | _,_=>false
def qcz:List Leaf→List Value→Bool
 | [],[]=>true
 | l::r,v::vs=>l.fits v && qcz r vs
 | _,_=>false
def Sh.fits:Sh→Value→Bool
 | .one l,v=>l.fits v
 | .agg ls,.agg cs=>qcz ls cs.toList
 | .agg _,_=>false
def Leaf.lam:(l:Leaf)→{T:Type}→(Value→T)→l.fn T
 | .int k,_,f=>fun n=>f (.int k n)
 | .bool,_,f=>fun b=>f (.bool b)
 | .str,_,f=>fun s=>f (.string s)
 | .ptr,_,f=>fun a=>f (.pointer a)
 | .slice,_,f=>fun a n c=>f (.slice a n c)
 | .map,_,f=>fun r=>f (.map r)
 | .raw,_,f=>fun v=>f v
 | .fnv,_,f=>fun g cap=>f (.func (.func g) ⟨[]⟩ ⟨cap⟩)
 | .adr,_,f=>fun b o=>f (.pointer (some ⟨b,o,none⟩))
 | .vec _ _,_,f=>f (.bool false)
def lamLs:(ls:List Leaf)→{T:Type}→(List Value→T)→fnLs ls T
 | [],_,f=>f []
 | l::r,T,f=>l.lam (T:=fnLs r T) fun v=>lamLs r fun vs=>f (v::vs)
def Sh.lam:(s:Sh)→{T:Type}→(Value→T)→s.fn T
 | .one l,_,f=>l.lam f
 | .agg ls,_,f=>lamLs ls fun vs=>f (.agg ⟨vs⟩)
def lamJ:(L:Live)→{T:Type}→(List Value→T)→JT T L
 | [],_,f=>f []
 | (_,s)::r,T,f=>s.lam (T:=JT T r) fun v=>lamJ r fun vs=>f (v::vs)
theorem qxa {v:Value}(h:Leaf.fits .fnv v=true):∃g cap,v=.func (.func g) ⟨[]⟩ cap:=by
 cases v <;> (try cases h)
 rename_i fn first cap
 cases fn <;> (try cases h)
 rcases first with ⟨_|_⟩ <;> (try cases h);exact⟨_,_,rfl⟩
theorem qxb {v:Value}(h:Leaf.fits .adr v=true):∃b o,v=.pointer (some ⟨b,o,none⟩):=by
 cases v <;> (try cases h)
 rename_i a
 rcases a with _|⟨b,o,_|s⟩ <;> (try cases h);exact⟨_,_,rfl⟩
theorem qfs (l:Leaf){T:Type}(f:Value→T)(v:Value)(h:l.fits v=true):l.app (l.lam f) v=some (f v):=by
 cases l
 case fnv=>obtain⟨g,⟨cap⟩,rfl⟩:=qxa h; rfl
 case adr=>obtain⟨b,o,rfl⟩:=qxb h; rfl
 all_goals (cases v <;> simp_all [Leaf.fits,Leaf.app,Leaf.lam])
theorem qd0 (l:Leaf){T:Type}(f:l.fn T)(v:Value)(g:T)(h:l.app f v=some g):l.fits v=true:=by
 cases l
 case fnv=>
  cases v <;> (try cases h)
  rename_i fn first cap
  cases fn <;> (try cases h)
  rcases first with ⟨_|_⟩ <;> (try cases h);rfl
 case adr=>
  cases v <;> (try cases h)
  rename_i a
  rcases a with _|⟨b,o,_|s⟩ <;> (try cases h);rfl
 all_goals (cases v <;> simp_all [Leaf.fits,Leaf.app])
theorem qxc {l:Leaf}{K:Value→Prop}:l.all K↔∀v,l.fits v=true→K v:=by
 cases l
 case int k=>exact⟨fun h v hv=>by cases v <;> simp [Leaf.fits] at hv; subst hv; exact h _,fun h n=>h _ (by simp [Leaf.fits])⟩
 case bool=>exact⟨fun h v hv=>by cases v <;> simp [Leaf.fits] at hv; exact h _,fun h n=>h _ rfl⟩
 case str=>exact⟨fun h v hv=>by cases v <;> simp [Leaf.fits] at hv; exact h _,fun h n=>h _ rfl⟩
 case ptr=>exact⟨fun h v hv=>by cases v <;> simp [Leaf.fits] at hv; exact h _,fun h n=>h _ rfl⟩
 case slice=>exact⟨fun h v hv=>by cases v <;> simp [Leaf.fits] at hv; exact h _ _ _,fun h a n c=>h _ rfl⟩
 case adr=>exact⟨fun h v hv=>by obtain⟨b,o,rfl⟩:=qxb hv; exact h _ _,fun h b o=>h _ rfl⟩
 case fnv=>exact⟨fun h v hv=>by obtain⟨g,⟨cap⟩,rfl⟩:=qxa hv; exact h _ _,fun h f cap=>h _ rfl⟩
 case map=>exact⟨fun h v hv=>by cases v <;> simp [Leaf.fits] at hv; exact h _,fun h n=>h _ rfl⟩
 case raw=>exact⟨fun h v _=>h v,fun h v=>h v rfl⟩
 case vec=>exact⟨fun h v hv=>(by cases v <;> cases hv),fun h=>trivial⟩
theorem ql4:∀(ls:List Leaf) {T:Type} (f:List Value→T) (vs:List Value),qcz ls vs=true→qze ls (lamLs ls f) vs=some (f vs)
 | [],_,f,[],_=>rfl
 | [],_,f,_::_,h=>by cases h
 | l::r,_,f,[],h=>by cases h
 | l::r,T,f,v::vs,h=>by
  simp only [qcz,z8w] at h;simp only [qze,lamLs];rw [qfs l _ v h.1];exact ql4 r _ vs h.2
theorem qhy:∀(ls:List Leaf) {T:Type} (f:fnLs ls T) (vs:List Value) (g:T),qze ls f vs=some g→qcz ls vs=true
 | [],_,f,[],_,_=>rfl
 | [],_,f,_::_,_,h=>by cases h
 | l::r,_,f,[],_,h=>by cases h
 | l::r,T,f,v::vs,g,h=>by
  simp only [qze] at h
  split at h
  ·rename_i f' hf;simp only [qcz,z8w];exact⟨qd0 l _ v _ hf,qhy r _ vs g h⟩
  ·cases h
theorem ls_all:∀{ls:List Leaf} {K:List Value→Prop},allLs ls K↔∀vs,qcz ls vs=true→K vs
 | [],K=>⟨fun h vs hv=>(by cases vs with|nil=>exact h|cons=>cases hv),fun h=>h [] rfl⟩
 | l::r,K=>by
  simp only [allLs,qxc,ls_all];refine⟨fun h vs hv=>?_,fun h v hv vs hvs=>h _ (by simp [qcz,hv,hvs])⟩
  cases vs with
  | nil=>cases hv
  | cons v vs=>
   simp only [qcz,z8w] at hv;exact h v hv.1 vs hv.2
theorem qzp (s:Sh){T:Type}(f:Value→T)(v:Value)(h:s.fits v=true):s.app (s.lam f) v=some (f v):=by
 cases s with
 | one l=>exact qfs l f v h
 | agg ls=>
  cases v <;> try cases h
  rename_i cs;simp only [Sh.app,Sh.lam];rw [ql4 ls _ cs.toList h]
theorem qtw (s:Sh){T:Type}(f:s.fn T)(v:Value)(g:T)(h:s.app f v=some g):s.fits v=true:=by
 cases s with
 | one l=>exact qd0 l f v g h
 | agg ls=>
  cases v <;> try cases h
  rename_i cs;exact qhy ls f cs.toList g h
theorem sh_all {s:Sh}{K:Value→Prop}:s.all K↔∀v,s.fits v=true→K v:=by
 cases s with
 | one l=>exact qxc
 | agg ls=>
  simp only [Sh.all,ls_all];refine⟨fun h v hv=>?_,fun h vs hvs=>h _ hvs⟩
  cases v <;> try cases hv
  exact h _ hv
def qgl:Live→List Value→Bool
 | [],[]=>true
 | (_,s)::r,v::vs=>s.fits v && qgl r vs
 | _,_=>false
def setL:Live→Fr→List Value→Fr
 | (t,_)::r,fr,v::vs=>setL r (lset fr t (.p v)) vs
 | _,fr,_=>fr
def getL (fr:Fr):Live→Option (List Value)
 | []=>some []
 | (t,_)::r=>match getP fr t,getL fr r with|some v,some vs=>some (v::vs)|_,_=>none
def appV:(L:Live)→{T:Type}→JT T L→List Value→Option T
 | [],_,j,[]=>some j
 | (_,s)::r,T,j,v::vs=>match s.app (T:=JT T r) j v with|some j'=>appV r j' vs|none=>none
 | _,_,_,_=>none
theorem qn6:∀{L:Live} {fr:Fr} {K:Fr→Prop},allJ L fr K↔∀vs,qgl L vs=true→K (setL L fr vs)
 | [],fr,K=>⟨fun h vs hv=>(by cases vs with|nil=>exact h|cons=>cases hv),fun h=>h [] rfl⟩
 | (t,s)::r,fr,K=>by
  simp only [allJ,sh_all,qn6];refine⟨fun h vs hv=>?_,fun h v hv vs hvs=>h (v::vs) (by simp [qgl,hv,hvs])⟩
  cases vs with
  | nil=>cases hv
  | cons v vs=>
   simp only [qgl,z8w] at hv;exact h v hv.1 vs hv.2
theorem qn7:∀(L:Live) {T:Type} (j:JT T L) (fr:Fr) (g:T),appJ L j fr=some g→∃vs,getL fr L=some vs∧appV L j vs=some g∧qgl L vs=true
 | [],_,j,fr,g,h=>⟨[],rfl,h,rfl⟩
 | (t,s)::r,T,j,fr,g,h=>by
  simp only [appJ] at h
  cases hg:getP fr t with
  | none=>simp [hg] at h
  | some v=>
   simp only [hg] at h
   cases ha:s.app (T:=JT T r) j v with
   | none=>simp [ha] at h
   | some j'=>
    simp only [ha] at h;obtain⟨vs,h1,h2,h3⟩:=qn7 r j' fr g h;refine⟨v::vs,?_,?_,?_⟩
    ·simp only [getL,hg,h1]
    ·simp only [appV,ha,h2]
    ·simp only [qgl,qtw s _ v _ ha,h3,Bool.and_self]
theorem q42:∀(L:Live) {T:Type} (j:JT T L) (fr:Fr) (vs:List Value),getL fr L=some vs→appJ L j fr=appV L j vs
 | [],_,j,fr,vs,h=>by simp [getL] at h; subst h; rfl
 | (t,s)::r,T,j,fr,vs,h=>by
  simp only [getL] at h
  cases hg:getP fr t with
  | none=>simp [hg] at h
  | some v=>cases hr:getL fr r with
   | none=>simp [hg,hr] at h
   | some vs'=>
    simp only [hg,hr,Option.some.injEq] at h;subst h;simp only [appJ,hg,appV]
    cases s.app (T:=JT T r) j v with
    | none=>rfl
    | some j'=>exact q42 r j' fr vs' hr
theorem qn8:∀(L:Live) {T:Type} (f:List Value→T) (vs:List Value),qgl L vs=true→appV L (lamJ L f) vs=some (f vs)
 | [],_,f,[],_=>rfl
 | [],_,f,_::_,h=>by cases h
 | _::_,_,f,[],h=>by cases h
 | (t,s)::r,T,f,v::vs,h=>by
  simp only [qgl,z8w] at h;simp only [appV,lamJ];rw [qzp s _ v h.1];exact qn8 r _ vs h.2
def qbq:Live→Nat→Bool
 | [],_=>true
 | (t,_)::r,n=>Nat.blt t n && r.all (fun x=>!(Nat.beq x.1 t)) && qbq r n
theorem qhz:∀(L:Live) (fr:Fr) (vs:List Value),(setL L fr vs).length=fr.length
 | [],fr,vs=>by cases vs <;> rfl
 | (t,s)::r,fr,[]=>rfl
 | (t,s)::r,fr,v::vs=>by simp only [setL]; rw [qhz,q41]
theorem ql5:∀(L:Live) (fr:Fr) (vs:List Value) (t:Nat),(∀x∈L,x.1≠t)→lget (setL L fr vs) t=lget fr t
 | [],fr,vs,t,_=>by cases vs <;> rfl
 | (u,s)::r,fr,[],t,_=>rfl
 | (u,s)::r,fr,v::vs,t,h=>by
  simp only [setL];rw [ql5 r _ vs t (fun x hx=>h x (z99 _ hx)),q3c,if_neg (fun hc=>h _ z98 hc.1)]
theorem qtx {t:Nat}{s:Sh}{r:Live}{n:Nat}(h:qbq ((t,s)::r) n=true):t < n∧(∀x∈r,x.1≠t)∧qbq r n=true:=by
 simp only [qbq,z8w,z9v] at h;refine⟨by have:=h.1.1; simpa [Nat.blt_eq] using this,fun x hx he=>?_,h.2⟩
 have:=h.1.2 x hx;rw [he] at this;simp at this
theorem qd1:∀(L:Live) (fr:Fr) (vs:List Value),qbq L fr.length=true→qgl L vs=true→getL (setL L fr vs) L=some vs
 | [],fr,[],_,_=>rfl
 | [],fr,_::_,_,h=>by cases h
 | _::_,fr,[],_,h=>by cases h
 | (t,s)::r,fr,v::vs,hok,h=>by
  obtain⟨h1,h2,h3⟩:=qtx hok;simp only [qgl,z8w] at h;have ih:=qd1 r (lset fr t (.p v)) vs (by rw [q41]; exact h3) h.2;simp only [setL,getL,ih];have:getP (setL r (lset fr t (.p v)) vs) t=some v:=by
   unfold getP;rw [ql5 r _ vs t h2,q3c,if_pos ⟨rfl,h1⟩]
  rw [this]
theorem qxd:∀{L:Live} {fr:Fr} {vs:List Value},getL fr L=some vs→∀fr',(∀t v,lget fr t=some (.p v)→t < fr'.length)→∀t v,lget (setL L fr' vs) t=some (.p v)→lget fr t=some (.p v)∨(lget fr' t=some (.p v)∧∀x∈L,x.1≠t)
 | [],fr,vs,h,fr',_,t,v,hl=>by simp [getL] at h; subst h; exact .inr ⟨hl,fun x hx=>by cases hx⟩
 | (u,s)::r,fr,vs,h,fr',hlen,t,v,hl=>by
  simp only [getL] at h
  cases hg:getP fr u with
  | none=>simp [hg] at h
  | some v'=>cases hr:getL fr r with
   | none=>simp [hg,hr] at h
   | some vs'=>
    simp only [hg,hr,Option.some.injEq] at h;subst h;have hgu:lget fr u=some (.p v'):=by
     unfold getP at hg
     split at hg
     ·rename_i w hw; cases hg; exact hw
     ·cases hg
    simp only [setL] at hl
    rcases qxd hr (lset fr' u (.p v')) (fun t v h=>by rw [q41]; exact hlen t v h) t v hl with h1|⟨h1,h2⟩
    ·exact .inl h1
    ·rw [q3c] at h1
     split at h1
     ·rename_i hc
      cases h1
      left; rw [← hc.1]; exact hgu
     ·rename_i hc;refine .inr ⟨h1,fun x hx=>?_⟩
      rcases z96.1 hx with rfl|hx
      ·exact fun he=>hc ⟨he,by have:=hlen u v' hgu; exact this⟩
      ·exact h2 x hx
def q3r:List Oper→List Nat
 | []=>[]
 | o::r=>match o.dst with|some d=>d::q3r r|none=>q3r r
def dsts:Code→List Nat
 | .region _ ops _=>q3r ops.toList
 | .seq a b=>dsts a++dsts b
 | .cond _ a b=>dsts a++dsts b
 | .block _ a=>dsts a
 | .loop a=>dsts a
 | _=>[]
inductive Ann where
 | no
 | reg
 | regJ (live:Live)
 | seq (a b:Ann)
 | cond (a b:Ann)
 | condJ (live:Live) (a b:Ann)
 | blk (a:Ann)
 | blkJ (live:Live) (a:Ann)
 | loop (live:Live) (a:Ann)
 | rng (shs:List Sh) (jumps:List (Option Code)) (x y:Ann)
def natJ (L:Live)(μ:JT (Heap→Nat) L)(fr:Fr)(H:Heap):Nat:=match appJ L μ fr with|some m=>m H|none=>0
def qty (L:Live)(ds:List Nat)(fr:Fr)(rest:Fr→Heap→Prop)(body:(Fr→Heap→Prop)→Prop):Prop:=
 if qbq L fr.length=false then False else
 ∀J:JT (Heap→Prop) L,(allJ L (kill ds fr) fun fr'=>∀H',rest fr' H'→q6e L J fr' H')→body (q6e L J)
def qd2 (X:Ctx)(rd:Bool)(ops:Array Oper)(draw:Bool)(K:Fr→List DM→Heap→Prop)(fr:Fr)(H:Heap):Prop:=
 match draw with
 | false=>qht X ops rd K ops.toList [] [] fr H
 | true=>if Region.noSelect ops=false then False else if qn3 ops.toList=false then False else ql0 X ops (bfGo ops.toList []) (fun fr' H'=>K fr' [] H') ops.size (Array.replicate ops.size false) [] [] [] fr H
def pan1 (v:Value):Exit:=.panic [{ v,recovered:=false }]
abbrev QT:=Exit→Fr→List DM→Heap→Prop
def q0m (H:Heap)(l:Nat)(R:Loop):Heap:=H.setIfInBounds l (.loop R)
def qn9:Fr→List Tmp→List Value→Fr
 | fr,t::ts,v::vs=>qn9 (lset fr t (.p v)) ts vs
 | fr,_,_=>fr
def roundEnd (l:Nat)(R:Loop)(K:Value→Heap→Prop):Exit→Heap→Prop
 | .normal,H=>K (.bool true) (q0m H l R)
 | .ret,H=>K (.bool false) (q0m H l { R with state:=.done,pending:=some .ret })
 | .exit i,H=>K (.bool false) (q0m H l { R with state:=.done,pending:=some (.exit i) })
 | _,_=>False
def jumpQ (Q:Exit→Prop):Option Code→Prop
 | none=>Q .normal
 | some .ret=>Q .ret
 | some (.exit i)=>Q (.exit i)
 | some _=>False
def jumpK (Q:Exit→Prop):List (Option Code)→Option Code→Prop
 | [],_=>False
 | [c],pd=>pd=c∧jumpQ Q c
 | c::d::r,pd=>(pd=c∧jumpQ Q c)∨jumpK Q (d::r) pd
def q98:List DM→Prop→Prop
 | [],q=>q
 | _::_,_=>False
def Ctx.kq (X:Ctx)(ds:List Nat)(fr:Fr)(Q:QT):Ctx:={ X with kp:=fun v H=>Q (pan1 v) (kill ds fr) [] H }
def q2p (X:Ctx):Option Nat→Code→Ann→QT→Fr→Heap→Prop
 | _,.skip,_,Q,fr,H=>Q .normal fr [] H
 | ro,.region _ ops d,.reg,Q,fr,H=>qd2 (X.kq (q3r ops.toList) fr Q) ro.isNone ops d (fun fr' M H'=>Q .normal fr' M H') fr H
 | ro,.region _ ops d,.regJ L,Q,fr,H=>qty L (q3r ops.toList) fr (fun fr' H'=>Q .normal fr' [] H') fun J=>qd2 (X.kq (q3r ops.toList) fr Q) ro.isNone ops d (fun fr' M H'=>q98 M (J fr' H')) fr H
 | ro,.seq a b,.seq x y,Q,fr,H=>q2p X ro a x (fun e fr' M H'=>match e with|.normal=>q2p X ro b y (fun e' fr'' M' H''=>Q e' fr'' (M'++M) H'') fr' H'|e=>Q e fr' M H') fr H
 | ro,.cond c a b,.cond x y,Q,fr,H=>(match evG #[] fr [] none c with
  | some (.bool t)=>(t=true→q2p X ro a x Q fr H)∧(t=false→q2p X ro b y Q fr H)
  | _=>False)
 | ro,.cond c a b,.condJ L x y,Q,fr,H=>(match evG #[] fr [] none c with
  | some (.bool t)=>qty L (dsts a++dsts b) fr (fun fr' H'=>Q .normal fr' [] H') fun J=>
    (t=true→q2p X ro a x (fun e fr' M H'=>match e with|.normal=>q98 M (J fr' H')|e=>Q e fr' M H') fr H)∧(t=false→q2p X ro b y (fun e fr' M H'=>match e with|.normal=>q98 M (J fr' H')|e=>Q e fr' M H') fr H)
  | _=>False)
 | ro,.block id a,.blk x,Q,fr,H=>q2p X ro a x (fun e fr' M H'=>match e with|.exit i=>if i=id then Q .normal fr' M H' else Q (.exit i) fr' M H'|e=>Q e fr' M H') fr H
 | ro,.block id a,.blkJ L x,Q,fr,H=>qty L (dsts a) fr (fun fr' H'=>Q .normal fr' [] H') fun J=>q2p X ro a x (fun e fr' M H'=>match e with|.exit i=>if i=id then q98 M (J fr' H') else Q (.exit i) fr' M H'|.normal=>q98 M (J fr' H')|e=>Q e fr' M H') fr H
 | ro,.loop a,.loop L x,Q,fr,H=>if qbq L fr.length=false then False else ∃I:JT (Heap→Prop) L,∃μ:JT (Heap→Nat) L,q6e L I fr H∧
   allJ L (kill (dsts a) fr) fun fr'=>∀H',q6e L I fr' H'→q2p X ro a x (fun e fr'' M H''=>match e with|.normal=>q98 M (q6e L I fr'' H''∧natJ L μ fr'' H'' < natJ L μ fr' H')|e=>Q e fr'' M H'') fr' H'
 | none,.rangeFunc g ps a b,.rng shs js x y,Q,fr,H=>(match evG #[] fr [] none g with
  | some (.func (.func gf) ⟨[]⟩ ⟨cap⟩)=>if Nat.beq shs.length ps.toList.length=false then False else
    memN gf X.calls=true∧∀R:Loop,R.state=.ready→R.pending=none→
     (∀(vs:List Value) (H1:Heap) (K1:Value→Heap→Prop),
      (qtm shs fun us=>vs=us∧H1[H.size+1]?=some (.loop R)∧q2p X (some (H.size+1)) a x (fun e f1 M H2=>match e with
       | .normal=>q98 M (H2[H.size+1]?=some (.loop R)∧∀H2':Heap,H2'=q0m H2 (H.size+1) { R with state:=.busy }→q2p X (some (H.size+1)) b y (fun e' _ M2 H3=>q98 M2 (H3[H.size+1]?=some (.loop { R with state:=.busy })∧roundEnd (H.size+1) R K1 e' H3)) f1 H2')
       | _=>False) (qn9 fr ps.toList us) H1)→q4g X.P (H.size+1) vs H1 K1)→
     qcq X.P gf ⟨.func (.yield (H.size+1)) #[] #[]::cap⟩ ((H.push (.deferred (some []))).push (.loop R)) fun _ H2=>∃(st:LoopState) (pd:Option Code),st≠.busy∧H2[H.size+1]?=some (.loop { R with state:=st,pending:=pd })∧
      ∀H2':Heap,H2'=q0m H2 (H.size+1) { R with state:=.exhausted,pending:=pd }→jumpK (fun e=>Q e fr [.mark H.size] H2') js pd
  | _=>False)
 | _,.exit id,_,Q,fr,H=>Q (.exit id) fr [] H
 | _,.ret,_,Q,fr,H=>Q .ret fr [] H
 | _,_,_,_,_,_=>False
theorem q3d {M:List DM}{q:Prop}:q98 M q↔M=[]∧q:=by cases M <;> simp [q98]
theorem ql6:∀(l:List Oper) (o:Oper) (d:Tmp),o∈l→o.dst=some d→d∈q3r l
 | [],_,_,h,_=>by cases h
 | x::r,o,d,h,hd=>by
  simp only [q3r]
  rcases z96.1 h with rfl|h
  ·rw [hd]; exact z98
  ·have:=ql6 r o d h hd
   split
   ·exact z99 _ this
   ·exact this
structure Keep (ds:List Nat)(a a':Act):Prop where
 defers:a'.defers=a.defers
 size:a'.tmps.size=a.tmps.size
 same:∀t,t∉ds→a'.tmps[t]?=a.tmps[t]?
theorem Keep.refl (ds:List Nat)(a:Act):Keep ds a a:=⟨rfl,rfl,fun _ _=>rfl⟩
theorem Keep.trans {ds:List Nat}{a b c:Act}(h:Keep ds a b)(k:Keep ds b c):Keep ds a c:=
 ⟨k.defers.trans h.defers,k.size.trans h.size,fun t ht=>(k.same t ht).trans (h.same t ht)⟩
theorem Keep.put {ds:List Nat}{a b:Act}(h:Keep ds a b){d:Option Tmp}(hd:∀t,d=some t→t∈ds)(v:Value):Keep ds a (b.put d v):=by
 cases d with
 | none=>exact h
 | some t=>
  refine⟨h.defers,?_,fun u hu=>?_⟩
  ·rw [qaq,Array.size_setIfInBounds]; exact h.size
  ·rw [qaq,Array.getElem?_setIfInBounds,if_neg (fun e=>hu (by rw [← e]; exact hd t rfl))]; exact h.same u hu
theorem q6j (ds:List Nat)(fr:Fr):(kill ds fr).length=fr.length:=by
 unfold kill
 induction ds generalizing fr with
 | nil=>rfl
 | cons d r ih=>simp only [List.foldl_cons]; rw [ih,q41]
theorem qgy {ds:List Nat}:∀{fr:Fr} {t:Nat} {s:SV},lget (kill ds fr) t=some s→s=.x∨(lget fr t=some s∧t∉ds):=by
 unfold kill
 induction ds with
 | nil=>intro fr t s h; exact .inr ⟨h,by simp⟩
 | cons d r ih=>
  intro fr t s h;simp only [List.foldl_cons] at h
  rcases ih h with h1|⟨h1,h2⟩
  ·exact .inl h1
  ·rw [q3c] at h1
   split at h1
   ·cases h1; exact .inl rfl
   ·rename_i hc
    by_cases hd:d=t
    ·left;have hlt:¬d < fr.length:=fun h=>hc ⟨hd,h⟩
     rw [q1d,List.getElem?_eq_none (by omega)] at h1
     cases h1
    ·exact .inr ⟨h1,by simp [h2]; exact fun e=>hd e.symm⟩
theorem qas {fr fr':Fr}{a a':Act}{ds:List Nat}{L:Live}{vs:List Value}(R:Rel fr a)(K:Keep ds a a')(R':Rel fr' a')(hg:getL fr' L=some vs):Rel (setL L (kill ds fr) vs) a':=by
 have hlen:fr'.length=fr.length:=by rw [← R'.size,K.size,R.size]
 refine⟨by rw [qhz,q6j,K.size]; exact R.size,fun t v h=>?_,fun t j w v h=>?_⟩
 ·rcases qxd hg (kill ds fr) (fun t v h=>by
    rw [q6j,← hlen];rw [q1d] at h; exact (List.getElem?_eq_some_iff.1 h).1) t v h with h1|⟨h1,_⟩
  ·exact R'.pv _ _ h1
  ·rcases qgy h1 with h2|⟨h2,h3⟩
   ·cases h2
   ·rw [K.same t h3]; exact R.pv _ _ h2
 ·have key:∀(L:Live) (f:Fr) (vs:List Value),(∀t j w v,lget f t≠some (.g j w v))→∀t j w v,lget (setL L f vs) t≠some (.g j w v):=by
   intro L
   induction L with
   | nil=>intro f vs hf t j w v; cases vs <;> exact hf t j w v
   | cons x r ih=>
    intro f vs hf t j w v;obtain⟨u,s⟩:=x
    cases vs with
    | nil=>exact hf t j w v
    | cons v' vs=>
     simp only [setL];refine ih _ vs (fun t j w v h=>?_) t j w v
     rw [q3c] at h
     split at h
     ·cases h
     ·exact hf t j w v h
  refine key L _ vs (fun t j w v h=>?_) t j w v h
  rcases qgy h with h2|⟨h2,_⟩
  ·cases h2
  ·exact R.ng _ _ _ _ h2
def DM.dfr:DM→Deferred
 | .mark r=>{ target:=.collected r,args:=#[] }
 | .fn g cap=>{ target:=.fn (.func g) ⟨cap⟩,args:=#[] }
def qke (M:List DM):List Deferred:=M.map DM.dfr
structure q99 (ds:List Nat)(M:List DM)(a a':Act):Prop where
 defers:a'.defers=qke M++a.defers
 size:a'.tmps.size=a.tmps.size
 same:∀t,t∉ds→a'.tmps[t]?=a.tmps[t]?
theorem q99.of {ds:List Nat}{a a':Act}(h:Keep ds a a'):q99 ds [] a a':=⟨h.defers,h.size,h.same⟩
theorem q99.keep {ds:List Nat}{a a':Act}(h:q99 ds [] a a'):Keep ds a a':=⟨h.defers,h.size,h.same⟩
theorem q99.trans {ds:List Nat}{M N:List DM}{a b c:Act}(h:q99 ds M a b)(k:q99 ds N b c):q99 ds (N++M) a c:=
 ⟨by rw [k.defers,h.defers]; simp [qke],k.size.trans h.size,fun t ht=>(k.same t ht).trans (h.same t ht)⟩
theorem q99.mono {ds ds':List Nat}{M:List DM}{a b:Act}(h:q99 ds M a b)(hs:∀t∈ds,t∈ds'):q99 ds' M a b:=
 ⟨h.defers,h.size,fun t ht=>h.same t (fun hm=>ht (hs t hm))⟩
def Out (w0:World)(a0:Act)(ds:List Nat)(Q:QT):Exit→Act→World→Prop
 | e,a,w=>Rest w0 w∧∃M,q99 ds M a0 a∧match e with
  | .normal=>∃fr,Rel fr a∧Q .normal fr M w.heap
  | .exit i=>∃fr,Rel fr a∧Q (.exit i) fr M w.heap
  | .ret=>∃fr,Rel fr a∧Q .ret fr M w.heap
  | .panic ch=>∃fr,Rel fr a∧Q (.panic ch) fr M w.heap
  | _=>False
theorem rel_kill {fr:Fr}{a a':Act}{ds:List Nat}(R:Rel fr a)(K:Keep ds a a'):Rel (kill ds fr) a':=by
 refine⟨by rw [q6j,K.size]; exact R.size,fun t v h=>?_,fun t j w v h=>?_⟩
 ·rcases qgy h with h2|⟨h2,h3⟩
  ·cases h2
  ·rw [K.same t h3]; exact R.pv _ _ h2
 ·rcases qgy h with h2|⟨h2,_⟩
  ·cases h2
  ·exact R.ng _ _ _ _ h2
theorem qft {X:Ctx}(hm:X.P.follows .mixedOrders=true)(hX:∀f,memN f X.calls=true→q3b X.P f){id:Nat}{ops:Array Oper}{d:Bool}{K:Fr→List DM→Heap→Prop}{fr:Fr}{w0 w:World}{a:Act}{ro:Option Nat}
  (R:Rel fr a) (hr:Rest w0 w) (h:qd2 X ro.isNone ops d K fr w.heap):(Code.region id ops d).wpIn (FR ro) 0 X.P (fun e a' w'=>Rest w0 w'∧match e with
   | .normal=>∃M,q99 (q3r ops.toList) M a a'∧∃fr',Rel fr' a'∧K fr' M w'.heap
   | .panic ch=>∃v,ch=[{ v,recovered:=false }]∧Keep (q3r ops.toList) a a'∧X.kp v w'.heap
   | _=>False) a w:=by
 have hInv:∀(b:Act) (o:Oper) (v:Value),o∈ops.toList→Keep (q3r ops.toList) a b→Keep (q3r ops.toList) a (b.put o.dst v):=
  fun b o v ho hk=>hk.put (fun t ht=>ql6 _ o t ho ht) v
 cases d with
 | false=>
  refine wpIn_region_list ?_;refine q7s (Inv:=Keep (q3r ops.toList) a) hX hInv (fun fr' a' w' h1 h2 h3 h4=>⟨h1,[],.of h4,fr',h2,h3⟩) (fun fr' a' w' g cap _ h1 h2 h3 h4=>⟨h1,_,⟨?_,h4.size,h4.same⟩,fr',⟨h2.size,h2.pv,h2.ng⟩,h3⟩)
   (fun v a' w' h1 h2 h3=>⟨h1,v,rfl,h2,h3⟩) ops.toList [] [] fr a w (fun _ h=>h) (Keep.refl _ _) (q7r R) hr h
  simp [qke,DM.dfr,h4.defers]
 | true=>
  simp only [qd2] at h;obtain⟨hs,h⟩:=q2q h;obtain⟨hnd,h⟩:=q2q h;refine wpIn_region_any hm ?_;have hr':Rest w0 { heap:=w.heap,tape:=w.tape,drawn:=w.drawn+1,os:=w.os,output:=w.output }:=hr.trans ⟨rfl,rfl,rfl⟩;refine qap (w0:=w0) (KP:=X.kp) (isW:=isWB X ops) (bf:=bfB (bfGo ops.toList [])) (Q:=fun a' H'=>(∃fr',Rel fr' a'∧K fr' [] H')∧Keep (q3r ops.toList) a a') (fun a' w' h1 h2=>?_)
   (qfr (by simpa using hnd)) (Inv:=Keep (q3r ops.toList) a) hInv (fun v a' w' h1 h2 h3=>⟨h1,v,rfl,h2,h3⟩) _ [] _ _ _ hr' (Keep.refl _ _) ?_
  ·exact⟨h1,[],.of h2.2,h2.1⟩
  ·refine qar hX (by simpa using hs) hInv _ _ [] [] [] fr _ a ?_ (fun x hx=>by cases hx) (q7r R) (Keep.refl _ _) h
   intro j oj hj hl;exfalso
   rcases z9h j ops.size with h'|h'
   ·simp [h'] at hl
   ·simp [Array.getElem?_eq_none h'] at hj
theorem qeo {L:Live}{ds:List Nat}{fr:Fr}{rest:Fr→Heap→Prop}{body:(Fr→Heap→Prop)→Prop}(h:qty L ds fr rest body) :
  ∃J:Fr→Heap→Prop,body J∧∀fr' H,J fr' H→∃vs,getL fr' L=some vs∧rest (setL L (kill ds fr) vs) H:=by
 unfold qty at h;obtain⟨hok,h⟩:=q2q h;have hok':qbq L (kill ds fr).length=true:=by rw [q6j]; simpa using hok
 refine⟨_,h (lamJ L fun vs=>rest (setL L (kill ds fr) vs)) ?_,fun fr' H hj=>?_⟩
 ·rw [qn6];intro vs hvs H' hrest;unfold q6e;rw [q42 L _ _ vs (qd1 L _ vs hok' hvs),qn8 L _ vs hvs];exact hrest
 ·unfold q6e at hj
  cases ha:appJ L (lamJ L fun vs=>rest (setL L (kill ds fr) vs)) fr' with
  | none=>rw [ha] at hj; exact hj.elim
  | some p=>
   rw [ha] at hj;obtain⟨vs,h1,h2,h3⟩:=qn7 L _ fr' p ha;rw [qn8 L _ vs h3] at h2
   cases h2
   exact⟨vs,h1,hj⟩
def frOf (a:Act):Fr:=a.tmps.toList.map .p
theorem qpv:∀{L:Live} {fr:Fr} {a:Act} {vs:List Value},Rel fr a→getL fr L=some vs→getL (frOf a) L=some vs
 | [],_,_,_,_,h=>h
 | (t,s)::r,fr,a,vs,R,h=>by
  simp only [getL] at h ⊢
  cases hg:getP fr t with
  | none=>simp [hg] at h
  | some v=>cases hr:getL fr r with
   | none=>simp [hg,hr] at h
   | some vs'=>
    simp only [hg,hr,Option.some.injEq] at h;subst h;have hgu:lget fr t=some (.p v):=by
     unfold getP at hg
     split at hg
     ·rename_i w hw; cases hg; exact hw
     ·cases hg
    have ht:=R.pv _ _ hgu;have:getP (frOf a) t=some v:=by
     unfold getP frOf;rw [qn4,q1d,Array.getElem?_toList,ht]; rfl
    rw [this,qpv R hr]
theorem qpw:∀{ss:List Sh} {Q:List Value→Prop},qtm ss Q→∃vs,vs.length=ss.length∧Q vs
 | [],_,h=>⟨[],rfl,h⟩
 | s::r,Q,h=>by
  simp only [qtm] at h;obtain⟨v,hv⟩:=qpj h;obtain⟨vs,h1,h2⟩:=qpw (ss:=r) hv;exact⟨v::vs,by simp [h1],h2⟩
theorem qxe:∀(ps:List Tmp) (vs:List Value) (fr:Fr) (a:Act),Rel fr a→Rel (qn9 fr ps vs) { tmps:=(ps.zip vs).foldl (fun t p=>t.setIfInBounds p.1 p.2) a.tmps,defers:=[] }
 | [],vs,fr,a,R=>⟨R.size,R.pv,R.ng⟩
 | t::ps,[],fr,a,R=>⟨R.size,R.pv,R.ng⟩
 | t::ps,v::vs,fr,a,R=>by
  simp only [qn9,List.zip_cons_cons,List.foldl_cons];refine qxe ps vs (lset fr t (.p v)) { tmps:=a.tmps.setIfInBounds t v,defers:=[] } ⟨by simp [q41,R.size],fun u x h=>?_,fun u j w x h=>?_⟩
  ·rw [q3c] at h
   split at h
   ·rename_i hc;obtain⟨rfl,hlt⟩:=hc
    cases h
    rw [Array.getElem?_setIfInBounds,if_pos rfl,if_pos (by rw [R.size]; exact hlt)]
   ·rename_i hc;have h2:=R.pv u x h
    by_cases e:t=u
    ·subst e;exfalso;exact hc ⟨rfl,by rw [q1d] at h; exact (List.getElem?_eq_some_iff.1 h).1⟩
    ·rw [Array.getElem?_setIfInBounds,if_neg e]; exact h2
  ·rw [q3c] at h
   split at h
   ·cases h
   ·exact R.ng _ _ _ _ h
theorem ql7 {X:Ctx}(hm:X.P.follows .mixedOrders=true)(hX:∀f,memN f X.calls=true→q3b X.P f):∀(c:Code) (w0:World) (ro:Option Nat) (an:Ann) (Q:QT) (fr:Fr) (a:Act) (w:World),
  Rel fr a→Rest w0 w→q2p X ro c an Q fr w.heap→c.wpIn (FR ro) 0 X.P (Out w0 a (dsts c) Q) a w:=by
 intro c
 induction c with
 | skip=>intro w0 ro an Q fr a w R hr h; cases an <;> exact wpIn_skip ⟨hr,[],.of (Keep.refl _ _),fr,R,h⟩
 | exit id=>intro w0 ro an Q fr a w R hr h; cases an <;> cases ro <;> exact wpIn_exit ⟨hr,[],.of (Keep.refl _ _),fr,R,h⟩
 | ret=>intro w0 ro an Q fr a w R hr h; cases an <;> cases ro <;> exact wpIn_ret ⟨hr,[],.of (Keep.refl _ _),fr,R,h⟩
 | region id ops d=>
  intro w0 ro an Q fr a w R hr h;have hpan:∀(ch:List PanicEntry) (a':Act) (w':World),Rest w0 w'→(∃v,ch=[{ v,recovered:=false }]∧Keep (q3r ops.toList) a a'∧(X.kq (q3r ops.toList) fr Q).kp v w'.heap)→Out w0 a (dsts (.region id ops d)) Q (.panic ch) a' w':=by
   rintro ch a' w' h1 ⟨v,rfl,h2,h3⟩;exact⟨h1,[],.of h2,_,rel_kill R h2,h3⟩
  cases an with
  | reg=>
   refine wpIn_mono (qft (X:=X.kq (q3r ops.toList) fr Q) (ro:=ro) hm hX R hr (K:=fun fr' M H'=>Q .normal fr' M H') (by cases ro <;> exact h)) (fun e a' w' hq=>?_)
   obtain⟨h1,h2⟩:=hq
   cases e with
   | normal=>obtain⟨M,h2,h3⟩:=h2; exact⟨h1,M,h2,h3⟩
   | panic ch=>exact hpan ch a' w' h1 h2
   | _=>exact h2.elim
  | regJ L=>
   have h:qty L (q3r ops.toList) fr (fun fr' H'=>Q .normal fr' [] H') fun J=>qd2 (X.kq (q3r ops.toList) fr Q) ro.isNone ops d (fun fr' M H'=>q98 M (J fr' H')) fr w.heap:=by cases ro <;> exact h
   obtain⟨J,h1,h2⟩:=qeo h;refine wpIn_mono (qft (X:=X.kq (q3r ops.toList) fr Q) (ro:=ro) hm hX R hr h1) (fun e a' w' hq=>?_)
   obtain⟨h3,h4⟩:=hq
   cases e with
   | normal=>
    obtain⟨M,h4,fr',h5,h6⟩:=h4;obtain⟨rfl,h6⟩:=q3d.1 h6;obtain⟨vs,h7,h8⟩:=h2 _ _ h6;exact⟨h3,[],h4,_,qas R h4.keep h5 h7,h8⟩
   | panic ch=>exact hpan ch a' w' h3 h4
   | _=>exact h4.elim
  | _=>cases ro <;> exact h.elim
 | seq x y ihx ihy=>
  intro w0 ro an Q fr a w R hr h
  cases an with
  | seq ax ay=>
   have h:q2p X ro x ax (fun e fr' M H'=>match e with|.normal=>q2p X ro y ay (fun e' fr'' M' H''=>Q e' fr'' (M'++M) H'') fr' H'|e=>Q e fr' M H') fr w.heap:=by cases ro <;> exact h
   refine wpIn_seq (wpIn_mono (ihx w0 ro ax _ fr a w R hr h) (fun e a' w' hq=>?_))
   obtain⟨h1,M,h2,h3⟩:=hq;have k1:q99 (dsts (.seq x y)) M a a':=h2.mono (fun t ht=>List.mem_append_left _ ht)
   cases e with
   | normal=>
    obtain⟨fr',h4,h5⟩:=h3;refine wpIn_mono (ihy w0 ro ay _ fr' a' w' h4 h1 h5) (fun e' a'' w'' hq'=>?_)
    obtain⟨h6,M',h7,h8⟩:=hq';exact⟨h6,M'++M,k1.trans (h7.mono (fun t ht=>List.mem_append_right _ ht)),h8⟩
   | exit i=>exact⟨h1,M,k1,h3⟩
   | ret=>exact⟨h1,M,k1,h3⟩
   | panic ch=>exact⟨h1,M,k1,h3⟩
   | _=>exact h3.elim
  | _=>cases ro <;> exact h.elim
 | cond c x y ihx ihy=>
  intro w0 ro an Q fr a w R hr h;have split:∀(Q1:QT) (ax ay:Ann) (t:Bool),evG #[] fr [] none c=some (.bool t)→(t=true→q2p X ro x ax Q1 fr w.heap)→(t=false→q2p X ro y ay Q1 fr w.heap)→
    (Code.cond c x y).wpIn (FR ro) 0 X.P (Out w0 a (dsts (.cond c x y)) Q1) a w:=by
   intro Q1 ax ay t ht h1 h2;have hc:a.eval c=.bool t:=q79 (q7r (ops:=#[]) R) c _ ht trivial;refine wpIn_cond_split hc (fun hb=>?_) (fun hb=>?_)
   ·refine wpIn_mono (ihx w0 ro ax Q1 fr a w R hr (h1 hb)) (fun e a' w' hq=>?_)
    obtain⟨q1,M,q2,q3⟩:=hq;exact⟨q1,M,q2.mono (fun t ht=>List.mem_append_left _ ht),q3⟩
   ·refine wpIn_mono (ihy w0 ro ay Q1 fr a w R hr (h2 hb)) (fun e a' w' hq=>?_)
    obtain⟨q1,M,q2,q3⟩:=hq;exact⟨q1,M,q2.mono (fun t ht=>List.mem_append_right _ ht),q3⟩
  cases an with
  | cond ax ay=>
   simp only [q2p] at h
   cases he:evG #[] fr [] none c with
   | none=>simp [he] at h
   | some v=>
    cases v <;> simp only [he] at h <;> try exact h.elim
    exact split Q ax ay _ he h.1 h.2
  | condJ L ax ay=>
   simp only [q2p] at h
   cases he:evG #[] fr [] none c with
   | none=>simp [he] at h
   | some v=>
    cases v <;> simp only [he] at h <;> try exact h.elim
    obtain⟨J,h1,h2⟩:=qeo h;refine wpIn_mono (split _ ax ay _ he h1.1 h1.2) (fun e a' w' hq=>?_)
    obtain⟨h3,M,h4,h5⟩:=hq
    cases e <;> simp only at h5
    case normal=>
     obtain⟨fr',h6,h7⟩:=h5;obtain⟨rfl,h7⟩:=q3d.1 h7;obtain⟨vs,h8,h9⟩:=h2 _ _ h7;exact⟨h3,[],h4,_,qas R h4.keep h6 h8,h9⟩
    case exit i=>exact⟨h3,M,h4,h5⟩
    case ret=>exact⟨h3,M,h4,h5⟩
    case panic ch=>exact⟨h3,M,h4,h5⟩
  | _=>cases ro <;> exact h.elim
 | block id x ih=>
  intro w0 ro an Q fr a w R hr h
  cases an with
  | blk ax=>
   have h:q2p X ro x ax (fun e fr' M H'=>match e with|.exit i=>if i=id then Q .normal fr' M H' else Q (.exit i) fr' M H'|e=>Q e fr' M H') fr w.heap:=by cases ro <;> exact h
   refine wpIn_block (wpIn_mono (ih w0 ro ax _ fr a w R hr h) (fun e a' w' hq=>?_))
   obtain⟨h1,M,h2,h3⟩:=hq
   cases e with
   | normal=>exact⟨h1,M,h2,h3⟩
   | exit i=>
    obtain⟨fr',h4,h5⟩:=h3;simp only [Exit.inBlock]
    by_cases hi:i=id
    ·simp only [hi,if_true] at h5 ⊢;exact⟨h1,M,h2,fr',h4,h5⟩
    ·simp only [hi,if_false] at h5 ⊢;exact⟨h1,M,h2,fr',h4,h5⟩
   | ret=>exact⟨h1,M,h2,h3⟩
   | panic ch=>exact⟨h1,M,h2,h3⟩
   | _=>exact h3.elim
  | blkJ L ax=>
   have h:qty L (dsts x) fr (fun fr' H'=>Q .normal fr' [] H') fun J=>q2p X ro x ax (fun e fr' M H'=>match e with|.exit i=>if i=id then q98 M (J fr' H') else Q (.exit i) fr' M H'|.normal=>q98 M (J fr' H')|e=>Q e fr' M H') fr w.heap:=by cases ro <;> exact h
   obtain⟨J,hb,hj⟩:=qeo h;refine wpIn_block (wpIn_mono (ih w0 ro ax _ fr a w R hr hb) (fun e a' w' hq=>?_))
   obtain⟨h1,M,h2,h3⟩:=hq
   cases e with
   | normal=>
    obtain⟨fr',h4,h5⟩:=h3;obtain⟨rfl,h5⟩:=q3d.1 h5;obtain⟨vs,h6,h7⟩:=hj _ _ h5;exact⟨h1,[],h2,_,qas R h2.keep h4 h6,h7⟩
   | exit i=>
    obtain⟨fr',h4,h5⟩:=h3;simp only [Exit.inBlock]
    by_cases hi:i=id
    ·simp only [hi,if_true] at h5 ⊢;obtain⟨rfl,h5⟩:=q3d.1 h5;obtain⟨vs,h6,h7⟩:=hj _ _ h5;exact⟨h1,[],h2,_,qas R h2.keep h4 h6,h7⟩
    ·simp only [hi,if_false] at h5 ⊢;exact⟨h1,M,h2,fr',h4,h5⟩
   | ret=>exact⟨h1,M,h2,h3⟩
   | panic ch=>exact⟨h1,M,h2,h3⟩
   | _=>exact h3.elim
  | _=>cases ro <;> exact h.elim
 | loop x ih=>
  intro w0 ro an Q fr a w R hr h
  cases an with
  | loop L ax=>
   have h:(if qbq L fr.length=false then False else ∃I:JT (Heap→Prop) L,∃μ:JT (Heap→Nat) L,q6e L I fr w.heap∧
    allJ L (kill (dsts x) fr) fun fr'=>∀H',q6e L I fr' H'→q2p X ro x ax (fun e fr'' M H''=>match e with|.normal=>q98 M (q6e L I fr'' H''∧natJ L μ fr'' H'' < natJ L μ fr' H')|e=>Q e fr'' M H'') fr' H'):=by cases ro <;> exact h
   obtain⟨hok,I,μ,h0,hround⟩:=q2q h;have hok':qbq L (kill (dsts x) fr).length=true:=by rw [q6j]; simpa using hok
   rw [qn6] at hround;have hfr:∀(fr':Fr) (H:Heap),q6e L I fr' H→∃vs,getL fr' L=some vs∧qgl L vs=true∧q6e L I (setL L (kill (dsts x) fr) vs) H∧∀H'',natJ L μ (setL L (kill (dsts x) fr) vs) H''=natJ L μ fr' H'':=by
    intro fr' H hh;have hh0:=hh;unfold q6e at hh
    cases ha:appJ L I fr' with
    | none=>rw [ha] at hh; exact hh.elim
    | some p=>
     obtain⟨vs,h1,h2,h3⟩:=qn7 L _ fr' p ha;refine⟨vs,h1,h3,?_,fun H''=>?_⟩
     ·unfold q6e;rw [q42 L _ _ vs (qd1 L _ vs hok' h3),h2];rw [ha] at hh; exact hh
     ·unfold natJ;rw [q42 L _ _ vs (qd1 L _ vs hok' h3),q42 L _ _ vs h1]
   have hmu:∀(fr':Fr) (a':Act) (vs:List Value) (H:Heap),Rel fr' a'→getL fr' L=some vs→natJ L μ (frOf a') H=natJ L μ fr' H:=by
    intro fr' a' vs H R' hg;unfold natJ;rw [q42 L _ _ vs (qpv R' hg),q42 L _ _ vs hg]
   refine wpIn_loop (fun a' w'=>Rest w0 w'∧Keep (dsts x) a a'∧∃vs,qgl L vs=true∧Rel (setL L (kill (dsts x) fr) vs) a'∧q6e L I (setL L (kill (dsts x) fr) vs) w'.heap)
    (fun a' w'=>natJ L μ (frOf a') w'.heap) ?_ ?_
   ·obtain⟨vs,h1,h2,h3,_⟩:=hfr _ _ h0;exact⟨hr,Keep.refl _ _,vs,h2,qas R (Keep.refl _ _) R h1,h3⟩
   ·rintro a' w' ⟨h1,h2,vs,h3,h4,h5⟩;refine wpIn_mono (ih w0 ro ax _ _ a' w' h4 h1 (hround vs h3 w'.heap h5)) (fun e a'' w'' hq=>?_)
    obtain⟨h6,M,h7,h8⟩:=hq
    cases e with
    | normal=>
     obtain⟨fr'',h9,h10⟩:=h8;obtain⟨rfl,h10,h11⟩:=q3d.1 h10;have k2:=h2.trans h7.keep;obtain⟨vs',h12,h13,h14,h15⟩:=hfr _ _ h10;have h16:=qas R k2 h9 h12;refine⟨⟨h6,k2,vs',h13,h16,h14⟩,?_⟩;rw [hmu _ _ _ _ h9 h12,hmu _ _ _ _ h4 (qd1 L _ vs hok' h3)];exact h11
    | exit i=>exact⟨h6,M,by have:=(q99.of h2).trans h7; rwa [z9o] at this,h8⟩
    | ret=>exact⟨h6,M,by have:=(q99.of h2).trans h7; rwa [z9o] at this,h8⟩
    | panic ch=>exact⟨h6,M,by have:=(q99.of h2).trans h7; rwa [z9o] at this,h8⟩
    | _=>exact h8.elim
  | _=>cases ro <;> exact h.elim
 | rangeFunc g ps x y ihx ihy=>
  intro w0 ro an Q fr a w R hr h
  cases ro with
  | some l0=>cases an <;> exact h.elim
  | none=>
   cases an with
   | rng shs js ax ay=>
    simp only [q2p] at h
    split at h
    case h_2=>exact h.elim
    rename_i gf cap hg;obtain⟨hlen,hmem,h⟩:=q2q h;have hlen:shs.length=ps.size:=by
     have:Nat.beq shs.length ps.toList.length=true:=by simpa using hlen
     have:=zam this;simpa using this
    have hge:a.eval g=.func (.func gf) #[] ⟨cap⟩:=q79 (q7r (ops:=#[]) R) g _ hg trivial;show (Code.rangeFunc g ps x y).wpIn Fence.wide 0 X.P _ a w;refine wpIn_rangeFunc ?_;intro fn _;have hcall:=h { state:=.ready,pending:=none,fn:=fn,tmps:=a.tmps,params:=ps,assign:=x,body:=y,defers:=w.heap.size } rfl rfl ?_
    ·refine⟨w.heap.size+1,qke [.mark w.heap.size],(w.alloc (.deferred (some []))).alloc (.loop { state:=.ready,pending:=none,fn:=fn,tmps:=a.tmps,params:=ps,assign:=x,body:=y,defers:=w.heap.size }),
      { target:=.fn (.func gf) ⟨cap⟩,args:=#[.func (.yield (w.heap.size+1)) #[] #[]] },((w.alloc (.deferred (some []))).alloc (.loop { state:=.ready,pending:=none,fn:=fn,tmps:=a.tmps,params:=ps,assign:=x,body:=y,defers:=w.heap.size })),gf,#[.func (.yield (w.heap.size+1)) #[] #[]]++⟨cap⟩,((w.alloc (.deferred (some []))).alloc (.loop { state:=.ready,pending:=none,fn:=fn,tmps:=a.tmps,params:=ps,assign:=x,body:=y,defers:=w.heap.size })),run_enterLoop_outer _ _ _ _ _,?_,fun _ _=>trivial,?_,fun hd=>(by cases hd),?_⟩
     ·simp only [resolve,hge];simp [go_sem]
     ·simp only [invoke];rw [q5n (hX gf hmem)]
     ·refine callsIn_wide.2 ?_;have e1:(#[.func (.yield (w.heap.size+1)) #[] #[]]++⟨cap⟩:Array Value)=⟨.func (.yield (w.heap.size+1)) #[] #[]::cap⟩:=by apply Array.ext'; simp
      rw [e1];refine (hcall ((w.alloc (.deferred (some []))).alloc (.loop { state:=.ready,pending:=none,fn:=fn,tmps:=a.tmps,params:=ps,assign:=x,body:=y,defers:=w.heap.size })) rfl).mono fun e w3 he=>?_
      cases e <;> simp only [Fin] at he
      obtain⟨hr3,st,pd,hst,hl3,hj⟩:=he;refine⟨pd,_,run_endLoop hl3 hst,?_⟩;have hr4:Rest w0 (w3.putObj (w.heap.size+1) (.loop { state:=.exhausted,pending:=pd,fn:=fn,tmps:=a.tmps,params:=ps,assign:=x,body:=y,defers:=w.heap.size })):=
       (hr.trans (Rest.trans (b:=(w.alloc (.deferred (some []))).alloc (.loop { state:=.ready,pending:=none,fn:=fn,tmps:=a.tmps,params:=ps,assign:=x,body:=y,defers:=w.heap.size })) ⟨rfl,rfl,rfl⟩ hr3)).trans ⟨rfl,rfl,rfl⟩
      have hk:q99 (dsts (.rangeFunc g ps x y)) [.mark w.heap.size] a { a with defers:=qke [.mark w.heap.size]++a.defers }:=⟨rfl,rfl,fun _ _=>rfl⟩
      have hR:Rel fr { a with defers:=qke [.mark w.heap.size]++a.defers }:=⟨R.size,R.pv,R.ng⟩;have hjq:∀(js:List (Option Code)) (pd:Option Code) (Q1:Exit→Prop),jumpK Q1 js pd→jumpQ Q1 pd:=by
       intro js
       induction js with
       | nil=>intro pd Q1 h; exact h.elim
       | cons c r ih=>
        intro pd Q1 h
        cases r with
        | nil=>obtain⟨rfl,h⟩:=h; exact h
        | cons d r=>
         rcases h with ⟨rfl,h⟩|h
         ·exact h
         ·exact ih pd Q1 h
      have hj2:=hjq _ _ _ (hj _ rfl)
      cases pd with
      | none=>exact⟨hr4,[.mark w.heap.size],hk,fr,hR,hj2⟩
      | some c=>
       cases c <;> simp only [jumpQ] at hj2
       ·rename_i i;exact wpIn_exit ⟨hr4,[.mark w.heap.size],hk,fr,hR,hj2⟩
       ·exact wpIn_ret ⟨hr4,[.mark w.heap.size],hk,fr,hR,hj2⟩
    ·intro vs H1 K1 hround w1 hw1;subst hw1;obtain⟨us,hul,rfl,hl1,hx⟩:=qpw hround;refine⟨fn,_,x,y,run_yield hl1 (by simp [hul,hlen]),roundIn_of_wpIn trivial ?_⟩;have hz:(ps.zip ⟨vs⟩).foldl (fun tmps (t,a)=>tmps.setIfInBounds t a) a.tmps=(ps.toList.zip vs).foldl (fun t p=>t.setIfInBounds p.1 p.2) a.tmps:=by
      rw [← Array.foldl_toList,Array.toList_zip]
     refine wpIn_mono (ihx w1 (some (w.heap.size+1)) ax _ _ _ w1 (by have:=qxe ps.toList vs fr a R; rw [← hz] at this; exact this) (Rest.refl w1) hx) (fun e a1 w2 hq=>?_)
     obtain⟨hr2,M,hk2,h3⟩:=hq
     cases e with
     | normal=>
      obtain⟨fr1,hR1,h3⟩:=h3;obtain⟨rfl,hl2,hy⟩:=q3d.1 h3;refine⟨_,run_beginRound hl2 rfl,?_⟩;have hd1:a1.defers=[]:=hk2.defers;refine wpIn_mono (ihy w1 (some (w.heap.size+1)) ay _ fr1 a1 _ hR1 (hr2.trans ⟨rfl,rfl,rfl⟩) (hy _ rfl)) (fun e' a2 w3 hq=>?_)
      obtain⟨hr3,M2,hk3,h4⟩:=hq
      cases e' with
      | normal=>
       obtain⟨fr2,hR2,h4⟩:=h4;obtain⟨rfl,hl3,h5⟩:=q3d.1 h4;exact⟨_,_,run_endRound none hl3,hr3.trans ⟨rfl,rfl,rfl⟩,h5⟩
      | exit i=>
       obtain⟨fr2,hR2,h4⟩:=h4;obtain⟨rfl,hl3,h5⟩:=q3d.1 h4;exact⟨_,_,run_endRound (some (.exit i)) hl3,hr3.trans ⟨rfl,rfl,rfl⟩,h5⟩
      | ret=>
       obtain⟨fr2,hR2,h4⟩:=h4;obtain⟨rfl,hl3,h5⟩:=q3d.1 h4;exact⟨_,_,run_endRound (some .ret) hl3,hr3.trans ⟨rfl,rfl,rfl⟩,h5⟩
      | panic ch=>
       obtain⟨fr2,hR2,h4⟩:=h4;obtain⟨rfl,hl3,h5⟩:=q3d.1 h4;exact h5.elim
      | _=>exact h4.elim
     | exit i=>obtain⟨fr1,hR1,h3⟩:=h3; exact h3.elim
     | ret=>obtain⟨fr1,hR1,h3⟩:=h3; exact h3.elim
     | panic ch=>obtain⟨fr1,hR1,h3⟩:=h3; exact h3.elim
     | _=>exact h3.elim
   | _=>exact h.elim
 | scope x=>intro w0 ro an Q fr a w R hr h; cases ro <;> exact h.elim
 | label l=>intro w0 ro an Q fr a w R hr h; cases ro <;> exact h.elim
 | goto l=>intro w0 ro an Q fr a w R hr h; cases ro <;> exact h.elim
 | refuse s=>intro w0 ro an Q fr a w R hr h; cases ro <;> exact h.elim
open Go
def qfu (args:List Value)(n:Nat):Fr:=args.map .p++List.replicate (n - args.length) .x
def resV (X:Ctx)(fr:Fr)(H:Heap):List ResultVar→(List Value→Prop)→Prop
 | [],k=>k []
 | .tmp t::r,k=>(match getP fr t with|some v=>resV X fr H r fun vs=>k (v::vs)|none=>False)
 | .cell a t::r,k=>(match getP fr a with
  | some (.pointer (some ⟨b,off,none⟩))=>(match aggT X.P t with
   | true=>qx1 X.P t fun us=>(if us.length=X.P.cellsOf t then q03 H b off us∧resV X fr H r fun vs=>k (.agg ⟨us⟩::vs) else False)
   | false=>exT X.P t fun u=>q02 H b off=some u∧resV X fr H r fun vs=>k (u::vs))
  | _=>False)
def qtz:List Value→Value
 | [v]=>v
 | vs=>.tuple ⟨vs⟩
def DefQ (P:Program)(g:FuncId)(cap:List Value)(u:FrameMode)(H:Heap)(K:FrameMode→Heap→Prop):Prop:=
 ∀w,w.heap=H→CallsDIn Fence.wide 0 P g ⟨cap⟩ u w fun e u' w'=>match e with
  | .returned _=>Rest w w'∧K u' w'.heap
  | _=>False
def panM (v:Value)(r:Bool):FrameMode:=.panicking [{ v,recovered:=r }]
def qu0 (X:Ctx):List DM→Heap→(Heap→Prop)→Prop
 | [],H,k=>k H
 | .mark D::r,H,k=>H[D]?=some (.deferred (some []))∧qu0 X r (H.setIfInBounds D (.deferred none)) k
 | .fn g cap::r,H,k=>memN g X.calls=true∧DefQ X.P g cap .returning H fun u H'=>u=.returning∧qu0 X r H' k
def panQ (X:Ctx)(v:Value):List DM→Heap→(Heap→Prop)→(Heap→Prop)→Prop
 | [],H,_,kp=>kp H
 | .mark D::r,H,k,kp=>H[D]?=some (.deferred (some []))∧panQ X v r (H.setIfInBounds D (.deferred none)) k kp
 | .fn g cap::r,H,k,_=>memN g X.calls=true∧DefQ X.P g cap (panM v false) H fun u H'=>u=panM v true∧qu0 X r H' k
def finQ (X:Ctx)(rs:List ResultVar)(K KP:Value→Heap→Prop):QT
 | .normal,fr,M,H=>qu0 X M H fun H'=>resV X fr H' rs fun vs=>K (qtz vs) H'
 | .ret,fr,M,H=>qu0 X M H fun H'=>resV X fr H' rs fun vs=>K (qtz vs) H'
 | .panic [⟨v,false,false⟩],fr,M,H=>panQ X v M H (fun H'=>resV X fr H' rs fun vs=>K (qtz vs) H') (KP v)
 | _,_,_,_=>False
def qpx (X:Ctx)(fn:Func)(an:Ann)(args:List Value)(H:Heap)(K KP:Value→Heap→Prop):Prop:=
 match fn.body with
 | some c=>q2p X none c an (finQ X fn.results.toList K KP) (qfu args fn.ntmps) H
 | none=>False
def vcFun (X:Ctx)(fn:Func)(an:Ann)(args:List Value)(H:Heap)(K:Value→Heap→Prop):Prop:=qpx X fn an args H K fun _ _=>False
section
variable {X:Ctx}
def rvOf (a:Act):ResultVar→Sem Value
 | .tmp t=>pure (a.tmps.getD t undef)
 | .cell c t=>do loadVar t (← asAddr (a.tmps.getD c undef))
theorem qpy {fr:Fr}{t:Nat}{v:Value}(hg:getP fr t=some v):lget fr t=some (.p v):=by
 unfold getP at hg
 split at hg
 ·rename_i w hw; cases hg; exact hw
 ·cases hg
theorem qu1 {a:Act}{x:ResultVar}{r:List ResultVar}{v:Value}{vs:List Value}{w:World}(h1:(rvOf a x).run X.P w=.ok v w)(h2:(r.mapM (rvOf a)).run X.P w=.ok vs w) :
  ((x::r).mapM (rvOf a)).run X.P w=.ok (v::vs) w:=by
 simp only [List.mapM_cons,Sem.run_bind,h1,h2,Result.andThen_ok,Sem.run_pure]
theorem qat {fr:Fr}{a:Act}{w:World}(R:Rel fr a):∀(rs:List ResultVar) (k:List Value→Prop),resV X fr w.heap rs k→
  ∃vs,k vs∧(rs.mapM (rvOf a)).run X.P w=.ok vs w
 | [],k,h=>⟨[],h,by simp⟩
 | .tmp t::r,k,h=>by
  simp only [resV] at h
  cases hg:getP fr t with
  | none=>simp [hg] at h
  | some v=>
   simp only [hg] at h;obtain⟨vs,h1,h2⟩:=qat R r _ h;have ht:=R.pv _ _ (qpy hg);exact⟨_,h1,qu1 (by simp [rvOf,ht]) h2⟩
 | .cell c t::r,k,h=>by
  simp only [resV] at h
  cases hg:getP fr c with
  | none=>simp [hg] at h
  | some v=>
   have ht:=R.pv _ _ (qpy hg);simp only [hg] at h
   split at h
   ·rename_i b off hv
    cases hv
    have ha:(asAddr (a.tmps.getD c undef)).run X.P w=.ok ⟨b,off,none⟩ w:=by
     rw [zbg,ht]; rfl
    split at h
    ·rename_i hag;unfold qx1 at h
     split at h
     ·rename_i ls _;obtain⟨us,h⟩:=qhl (ls:=ls) h
      split at h
      ·rename_i hlen;obtain⟨vs,h1,h2⟩:=qat R r _ h.2;have hl:=qbm (P:=X.P) hag hlen h.1;simp only [Instr.loadAt,Instr.sureAddr,Sem.run_bind,Sem.run_pure,Result.andThen_ok] at hl;exact⟨_,h1,qu1 (by simp only [rvOf,Sem.run_bind,ha,Result.andThen_ok,hl]) h2⟩
      ·exact h.elim
     ·exact h.elim
    ·rename_i hag;have hu:=qbl h;obtain⟨u,h3,h4⟩:=qhm h;obtain⟨vs,h1,h2⟩:=qat R r _ h4;have hl:=qbn (P:=X.P) hu hag h3;simp only [Instr.loadAt,Instr.sureAddr,Sem.run_bind,Sem.run_pure,Result.andThen_ok] at hl;exact⟨_,h1,qu1 (by simp only [rvOf,Sem.run_bind,ha,Result.andThen_ok,hl]) h2⟩
   ·exact h.elim
theorem qi0 {fr:Fr}{a:Act}{w:World}(R:Rel fr a)(fn:Func)(k:Value→Prop)(h:resV X fr w.heap fn.results.toList fun vs=>k (qtz vs)) :
  ∃v,k v∧(results fn a.tmps).run X.P w=.ok v w:=by
 obtain⟨vs,h1,h2⟩:=qat R _ _ h;refine⟨_,h1,?_⟩;have e:results fn a.tmps=(do let l ← fn.results.mapM (rvOf a); pure (if h:l.size=1 then l[0] else .tuple l)):=by
  rfl
 rw [e,Array.mapM_eq_mapM_toList];simp only [Sem.run_bind,Sem.run_map,h2,Result.andThen_ok,Sem.run_pure];congr 1
 match vs with
 | []=>rfl
 | [v]=>rfl
 | v::u::r=>rfl
theorem ql8 (args:List Value)(n:Nat):Rel (qfu args n) { tmps:=(⟨args⟩:Array Value)++Array.replicate (n - (⟨args⟩:Array Value).size) undef,defers:=[] }:=by
 refine⟨by simp [qfu],fun t v h=>?_,fun t j w v h=>?_⟩
 ·unfold qfu at h;rw [q1d] at h
  rcases z9h t args.length with ht|ht
  ·rw [List.getElem?_append_left (by simpa using ht)] at h;simp [ht] at h;subst h;simp [Array.getElem?_append,ht]
  ·rw [List.getElem?_append_right (by simpa using ht)] at h;rw [List.getElem?_replicate] at h
   split at h <;> cases h
 ·unfold qfu at h;rw [q1d] at h
  rcases z9h t args.length with ht|ht
  ·rw [List.getElem?_append_left (by simpa using ht)] at h;simp [ht] at h
  ·rw [List.getElem?_append_right (by simpa using ht)] at h;rw [List.getElem?_replicate] at h
   split at h <;> cases h
theorem qfv {X:Ctx}(hX:∀f,memN f X.calls=true→q3b X.P f){g:FuncId}(hg:memN g X.calls=true)(cap:List Value)(w:World) :
  (invoke (.fn (.func g) ⟨cap⟩) #[]).run X.P w=.ok (.enter g ⟨cap⟩) w:=by
 simp only [invoke];rw [q5n (hX g hg)];simp
theorem q5h {fn:Func}{tmps:Array Value}{R:Ending→World→Prop}{w0:World}{k:Heap→Prop}(hX:∀f,memN f X.calls=true→q3b X.P f):∀(M:List DM) (w:World),Rest w0 w→qu0 X M w.heap k→
  (∀w',Rest w0 w'→k w'.heap→∃v,(results fn tmps).run X.P w'=.ok v w'∧R (.returned v) w')→LeavesInM Fence.wide 0 X.P fn tmps R (qke M) .returning w
 | [],w,hr,h,hk=>hk w hr h
 | .mark D::r,w,hr,h,hk=>by
  obtain⟨h1,h2⟩:=h;refine⟨by simp,.inl ⟨D,_,rfl,run_takeDeferred h1,?_⟩⟩;exact q5h hX r (w.putObj D (.deferred none)) (hr.trans ⟨rfl,rfl,rfl⟩) h2 hk
 | .fn g cap::r,w,hr,h,hk=>by
  obtain⟨hg,h⟩:=h;refine⟨by simp,.inr ⟨fun hd=>(by cases hd),.func g,⟨cap⟩,g,⟨cap⟩,rfl,qfv hX hg cap w,fun _ _=>trivial,?_⟩⟩
  refine (h w rfl).mono fun e u' w' he=>?_
  cases e <;> simp only at he ⊢
  obtain⟨hr',rfl,h⟩:=he;exact q5h hX r w' (hr.trans hr') h hk
theorem qd3 {fn:Func}{tmps:Array Value}{R:Ending→World→Prop}{w0:World}{v:Value}{k kp:Heap→Prop}(hX:∀f,memN f X.calls=true→q3b X.P f):∀(M:List DM) (w:World),Rest w0 w→panQ X v M w.heap k kp→
  (∀w',Rest w0 w'→k w'.heap→∃v,(results fn tmps).run X.P w'=.ok v w'∧R (.returned v) w')→(∀w',Rest w0 w'→kp w'.heap→R (.panicked [{ v,recovered:=false }]) w')→
  LeavesInM Fence.wide 0 X.P fn tmps R (qke M) (.panicking [{ v,recovered:=false }]) w
 | [],w,hr,h,_,hp=>hp w hr h
 | .mark D::r,w,hr,h,hk,hp=>by
  obtain⟨h1,h2⟩:=h;refine⟨by simp,.inl ⟨D,_,rfl,run_takeDeferred h1,?_⟩⟩;exact qd3 hX r (w.putObj D (.deferred none)) (hr.trans ⟨rfl,rfl,rfl⟩) h2 hk hp
 | .fn g cap::r,w,hr,h,hk,hp=>by
  obtain⟨hg,h⟩:=h;refine⟨by simp,.inr ⟨fun hd=>(by cases hd),.func g,⟨cap⟩,g,⟨cap⟩,rfl,qfv hX hg cap w,fun _ _=>trivial,?_⟩⟩
  refine (h w rfl).mono fun e u' w' he=>?_
  cases e <;> simp only at he ⊢
  obtain⟨hr',rfl,h⟩:=he;exact q5h hX r w' (hr.trans hr') h hk
theorem finQ_pan {rs:List ResultVar}{K KP:Value→Heap→Prop}{ch:List PanicEntry}{fr:Fr}{M:List DM}{H:Heap}(h:finQ X rs K KP (.panic ch) fr M H) :
  ∃v,ch=[{ v,recovered:=false }]∧panQ X v M H (fun H'=>resV X fr H' rs fun vs=>K (qtz vs) H') (KP v):=by
 rcases ch with _|⟨⟨v,r,g⟩,_|⟨_,_⟩⟩
 ·exact h.elim
 ·cases r <;> cases g <;> first|exact h.elim|exact⟨v,rfl,h⟩
 ·cases r <;> cases g <;> exact h.elim
theorem qi1 (hm:X.P.follows .mixedOrders=true)(hX:∀f,memN f X.calls=true→q3b X.P f){f:FuncId}{fn:Func}(hf:X.P.funcs[f]?=some fn)(an:Ann){args:List Value}{H:Heap}{K KP:Value→Heap→Prop}
  (h:qpx X fn an args H K KP):qzf X.P f ⟨args⟩ H K KP:=by
 intro w hw;unfold qpx at h
 cases hb:fn.body with
 | none=>simp [hb] at h
 | some c=>
  simp only [hb] at h;subst hw;refine callsIn_wide.1 (callsIn_of_wp_marks (F:=Fence.wide) (n:=0) hf hb trivial (wpIn_mono (ql7 hm hX c w none an _ _ _ w (ql8 args fn.ntmps) (Rest.refl w) h) (fun e a' w' hq=>?_)))
  obtain⟨h1,M,h2,h3⟩:=hq;have hd:a'.defers=qke M:=by rw [h2.defers]; simp
  have res:∀fr',Rel fr' a'→∀w2,Rest w w2→(resV X fr' w2.heap fn.results.toList fun vs=>K (qtz vs) w2.heap)→∃v,(results fn a'.tmps).run X.P w2=.ok v w2∧FinP w K KP (.returned v) w2:=by
   intro fr' h4 w2 hr2 h6;obtain⟨v,h7,h8⟩:=qi0 (w:=w2) h4 fn (fun v=>K v w2.heap) h6
   exact⟨v,h8,hr2,h7⟩
  have fin:∀fr',Rel fr' a'→(qu0 X M w'.heap fun H'=>resV X fr' H' fn.results.toList fun vs=>K (qtz vs) H')→LeavesInM Fence.wide 0 X.P fn a'.tmps (FinP w K KP) a'.defers .returning w':=by
   intro fr' h4 h5;rw [hd];exact q5h hX M w' h1 h5 (res fr' h4)
  cases e with
  | normal=>obtain⟨fr',h4,h5⟩:=h3; exact fin fr' h4 h5
  | ret=>obtain⟨fr',h4,h5⟩:=h3; exact fin fr' h4 h5
  | exit i=>obtain⟨fr',h4,h5⟩:=h3; exact h5.elim
  | panic ch=>
   obtain⟨fr',h4,h5⟩:=h3;obtain⟨v,rfl,h5⟩:=finQ_pan h5
   ·show LeavesInM Fence.wide 0 X.P fn a'.tmps (FinP w K KP) a'.defers (.panicking [{ v,recovered:=false }]) w';rw [hd];exact qd3 hX M w' h1 h5 (res fr' h4) (fun w2 hr2 h6=>⟨v,rfl,hr2,h6⟩)
  | _=>exact h3.elim
theorem qu2 (hm:X.P.follows .mixedOrders=true)(hX:∀f,memN f X.calls=true→q3b X.P f){f:FuncId}{fn:Func}(hf:X.P.funcs[f]?=some fn)(an:Ann){args:List Value}{H:Heap}{K:Value→Heap→Prop}
  (h:vcFun X fn an args H K):qcq X.P f ⟨args⟩ H K:=
 fun w hw=>(qi1 hm hX hf an h w hw).mono fun _ _ he=>he.fin
theorem qu3 {P:Program}(hP:X.P=P)(hm:X.P.follows .mixedOrders=true)(hX:∀f,memN f X.calls=true→q3b X.P f){f:FuncId}{fn:Func}(hf:P.funcs[f]?=some fn){an:Ann}{args:List Value}{H:Heap}{K:Value→Heap→Prop}{C:Prop}
  (he:vcFun X fn an args H K=C) (h:C):qcq P f args.toArray H K:=by
 subst hP;exact qu2 hm hX hf an (he▸h)
theorem qu4 {P:Program}(hP:X.P=P)(hm:X.P.follows .mixedOrders=true)(hX:∀f,memN f X.calls=true→q3b X.P f){f:FuncId}{fn:Func}(hf:P.funcs[f]?=some fn){an:Ann}{args:List Value}{H:Heap}{K KP:Value→Heap→Prop}{C:Prop}
  (he:qpx X fn an args H K KP=C) (h:C):qzf P f args.toArray H K KP:=by
 subst hP;exact qi1 hm hX hf an (he▸h)
def qna (P:Program)(f:FuncId):Bool:=match P.funcs[f]? with|some fn=>!fn.body.isNone && !(fn.name == "runtime.NumGoroutine")|none=>false
theorem z4o {P:Program}{f:FuncId}(h:qna P f=true):q3b P f:=by
 unfold qna at h
 split at h
 ·rename_i fn hf;simp only [z8w,z9a] at h;exact⟨fn,hf,h.1,h.2⟩
 ·cases h
theorem memN_all {l:List Nat}{p:Nat→Bool}(h:l.all p=true):∀f,memN f l=true→p f=true:=by
 induction l with
 | nil=>intro f hf; cases hf
 | cons m r ih=>
  intro f hf;simp only [List.all_cons,z8w] at h;simp only [memN,z97] at hf
  rcases hf with hf|hf
  ·rw [zam hf]; exact h.1
  ·exact ih h.2 f hf
theorem qzq {P:Program}{l:List Nat}(h:l.all (qna P)=true):∀f,memN f l=true→q3b P f:=fun f hf=>z4o (memN_all h f hf)
theorem qcq.mono {P:Program}{f:FuncId}{args:Array Value}{H:Heap}{K K':Value→Heap→Prop}(h:qcq P f args H K)(hk:∀v H',K v H'→K' v H'):qcq P f args H K':=
 fun w hw=>(h w hw).mono fun e w' he=>by
  cases e <;> simp only [Fin] at he ⊢
  exact⟨he.1,hk _ _ he.2⟩
end
open Go
abbrev PH:=Nat→Option Obj
def Assn:=PH→Prop
def q12 (a b:PH):PH:=fun i=>match a i with|some o=>some o|none=>b i
def phDisj (a b:PH):Prop:=∀i,a i=none∨b i=none
def Assn.sep (A B:Assn):Assn:=fun h=>∃a b,phDisj a b∧h=q12 a b∧A a∧B b
instance:Mul Assn:=⟨Assn.sep⟩
def qby:PH:=fun _=>none
def emp:Assn:=fun h=>h=qby
def pt (b:Nat)(o:Obj):Assn:=fun h=>h=fun i=>if i=b then some o else none
def pur (p:Prop):Assn:=fun h=>p∧h=qby
def exS {α:Type}(A:α→Assn):Assn:=fun h=>∃x,A x h
def old (H0:Heap):Assn:=fun h=>h=fun i=>H0[i]?
def Sat (H:Heap)(A:Assn):Prop:=∃h:PH,(∀i o,h i=some o→H[i]?=some o)∧A h
theorem qfw {a b:PH}(h:phDisj a b):q12 a b=q12 b a:=by
 funext i;simp only [q12]
 rcases h i with h|h <;> simp only [h] <;> split <;> simp_all
theorem qau (A B:Assn):A*B=B*A:=by
 funext h;apply propext
 constructor
 ·rintro⟨a,b,hd,rfl,ha,hb⟩;exact⟨b,a,fun i=>(hd i).symm,qfw hd,hb,ha⟩
 ·rintro⟨a,b,hd,rfl,ha,hb⟩;exact⟨b,a,fun i=>(hd i).symm,qfw hd,hb,ha⟩
theorem qd4 (a b c:PH):q12 (q12 a b) c=q12 a (q12 b c):=by
 funext i;simp only [q12]
 cases a i <;> simp
theorem q1t (A B C:Assn):A*B*C=A*(B*C):=by
 funext h;apply propext
 constructor
 ·rintro⟨ab,c,hd,rfl,⟨a,b,hd',rfl,ha,hb⟩,hc⟩;refine⟨a,q12 b c,fun i=>?_,qd4 a b c,ha,b,c,fun i=>?_,rfl,hb,hc⟩
  ·simp only [q12]
   rcases hd' i with h|h
   ·exact .inl h
   ·rcases hd i with h2|h2
    ·simp only [q12] at h2
     cases ha:a i with
     | none=>exact .inl rfl
     | some o=>simp [ha] at h2
    ·right; simp [h,h2]
  ·rcases hd i with h2|h2
   ·simp only [q12] at h2
    cases ha:a i with
    | none=>simp [ha] at h2; exact .inl h2
    | some o=>simp [ha] at h2
   ·exact .inr h2
 ·rintro⟨a,bc,hd,rfl,ha,b,c,hd',rfl,hb,hc⟩;refine⟨q12 a b,c,fun i=>?_,(qd4 a b c).symm,⟨a,b,fun i=>?_,rfl,ha,hb⟩,hc⟩
  ·rcases hd i with h2|h2
   ·simp only [q12,h2];exact hd' i
   ·simp only [q12] at h2
    cases hb:b i with
    | none=>simp [hb] at h2; exact .inr h2
    | some o=>simp [hb] at h2
  ·rcases hd i with h2|h2
   ·exact .inl h2
   ·simp only [q12] at h2
    cases hb:b i with
    | none=>exact .inr rfl
    | some o=>simp [hb] at h2
instance:Std.Commutative (α:=Assn) (·*·):=⟨qau⟩
instance:Std.Associative (α:=Assn) (·*·):=⟨q1t⟩
theorem q8d (A B C:Assn):A*(B*C)=B*(A*C):=by rw [← q1t,qau A B,q1t]
theorem q4h (h:PH):q12 qby h=h:=by funext i; rfl
theorem qbz (A:Assn):emp*A=A:=by
 funext h;apply propext
 constructor
 ·rintro⟨a,b,hd,rfl,ha,hb⟩;have:a=qby:=ha;subst this;rw [q4h]; exact hb
 ·intro hA;exact⟨qby,h,fun i=>.inl rfl,(q4h h).symm,rfl,hA⟩
theorem qu5 (A:Assn):A*emp=A:=by rw [qau,qbz]
theorem z4p (p:Prop)(A:Assn)(h:PH):(pur p*A) h↔p∧A h:=by
 constructor
 ·rintro⟨a,b,hd,rfl,⟨hp,rfl⟩,hb⟩;rw [q4h]; exact⟨hp,hb⟩
 ·rintro⟨hp,hA⟩;exact⟨qby,h,fun i=>.inl rfl,(q4h h).symm,⟨hp,rfl⟩,hA⟩
theorem exS_sep {α:Type}(A:α→Assn)(B:Assn):exS A*B=exS fun x=>A x*B:=by
 funext h;apply propext
 constructor
 ·rintro⟨a,b,hd,rfl,⟨x,ha⟩,hb⟩; exact⟨x,a,b,hd,rfl,ha,hb⟩
 ·rintro⟨x,a,b,hd,rfl,ha,hb⟩; exact⟨a,b,hd,rfl,⟨x,ha⟩,hb⟩
section
variable {H:Heap} {A B F:Assn}
theorem Sat.eq (h:Sat H A)(he:A=B):Sat H B:=he▸h
theorem Sat.drop (h:Sat H (A*B)):Sat H A:=by
 obtain⟨g,h1,a,b,hd,rfl,ha,hb⟩:=h;exact⟨a,fun i o ho=>h1 i o (by simp [q12,ho]),ha⟩
theorem Sat.drop' (h:Sat H (A*B)):Sat H B:=by rw [qau] at h; exact h.drop
theorem Sat.frame (h:Sat H (A*F))(hk:∀h,A h→B h):Sat H (B*F):=by
 obtain⟨g,h1,a,b,hd,he,ha,hb⟩:=h;exact⟨g,h1,a,b,hd,he,hk _ ha,hb⟩
theorem sat_ex {α:Type}{A:α→Assn}:Sat H (exS A)↔∃x,Sat H (A x):=
 ⟨fun ⟨g,h1,x,h2⟩=>⟨x,g,h1,h2⟩,fun ⟨x,g,h1,h2⟩=>⟨g,h1,x,h2⟩⟩
theorem sat_exs {α:Type}{A:α→Assn}:Sat H (exS A*F)↔∃x,Sat H (A x*F):=by rw [exS_sep,sat_ex]
theorem z4q {p:Prop}:Sat H (pur p*A)↔p∧Sat H A:=
 ⟨fun ⟨g,h1,h2⟩=>⟨((z4p p A g).1 h2).1,g,h1,((z4p p A g).1 h2).2⟩,fun ⟨hp,g,h1,h2⟩=>⟨g,h1,(z4p p A g).2 ⟨hp,h2⟩⟩⟩
theorem Sat.get {b:Nat}{o:Obj}(h:Sat H (pt b o*F)):H[b]?=some o:=by
 obtain⟨g,h1,a,c,hd,rfl,ha,hc⟩:=h;refine h1 b o ?_;have:a=_:=ha;subst this;simp [q12]
theorem Sat.upd {b:Nat}{o o':Obj}{H':Heap}(h:Sat H (pt b o*F))(hb:H'[b]?=some o')(ho:∀i,i≠b→H'[i]?=H[i]?):Sat H' (pt b o'*F):=by
 obtain⟨g,h1,a,c,hd,rfl,ha,hc⟩:=h;have:a=_:=ha;subst this;have hcb:c b=none:=by
  rcases hd b with h|h
  ·simp at h
  ·exact h
 refine⟨q12 (fun i=>if i=b then some o' else none) c,fun i o1 h2=>?_,_,c,fun i=>?_,rfl,rfl,hc⟩
 ·simp only [q12] at h2
  by_cases hi:i=b
  ·subst hi; simp at h2; subst h2; exact hb
  ·rw [ho i hi];refine h1 i o1 ?_;simp only [q12,if_neg hi] at h2 ⊢;exact h2
 ·by_cases hi:i=b
  ·subst hi; exact .inr hcb
  ·left; simp [hi]
theorem Sat.push (h:Sat H F)(o:Obj):Sat (H.push o) (pt H.size o*F):=by
 obtain⟨g,h1,h2⟩:=h;have hlt:∀i o',g i=some o'→i < H.size:=fun i o' hi=>(Array.getElem?_eq_some_iff.1 (h1 i o' hi)).1
 refine⟨q12 (fun i=>if i=H.size then some o else none) g,fun i o1 h3=>?_,_,g,fun i=>?_,rfl,rfl,h2⟩
 ·simp only [q12] at h3
  by_cases hi:i=H.size
  ·subst hi; simp at h3; subst h3; simp
  ·simp only [if_neg hi] at h3;have:=hlt i o1 h3;rw [Array.getElem?_push,if_neg hi]; exact h1 i o1 h3
 ·by_cases hi:i=H.size
  ·subst hi;right
   cases hg:g H.size with
   | none=>rfl
   | some o'=>have:=hlt _ _ hg; omega
  ·left; simp [hi]
theorem Sat.lt {b:Nat}{o:Obj}(h:Sat H (pt b o*F)):b < H.size:=(Array.getElem?_eq_some_iff.1 h.get).1
theorem z4r (H:Heap):Sat H (old H):=⟨fun i=>H[i]?,fun _ _ h=>h,rfl⟩
theorem Sat.was {H0:Heap}(h:Sat H (old H0*F)){i:Nat}(hi:i < H0.size):H[i]?=H0[i]?:=by
 obtain⟨g,h1,a,c,hd,rfl,ha,hc⟩:=h;have:a=_:=ha;subst this;have h2:H0[i]?=some H0[i]:=by simp [hi]
 rw [h2];refine h1 i _ ?_;simp [q12,h2]
end
def cellsA (b:Nat)(cs:List Value)(e:TypeId):Assn:=pt b (.cells cs.toArray e (0,0))
theorem Sat.cell {H:Heap}{F:Assn}{b:Nat}{cs:List Value}{e:TypeId}(h:Sat H (cellsA b cs e*F))(o:Nat):q02 H b o=cs[o]?:=by
 have:=h.get;simp [q02,this]
theorem Sat.cell_old {H H0:Heap}{F:Assn}(h:Sat H (old H0*F)){b o:Nat}{v:Value}(hc:q02 H0 b o=some v):q02 H b o=some v:=by
 have hb:b < H0.size:=by
  unfold q02 at hc
  rcases z9h b H0.size with hlt|hge
  ·exact hlt
  ·simp [Array.getElem?_eq_none hge] at hc
 simp only [q02,h.was hb]; exact hc
theorem qpz {H:Heap}{b o:Nat}{v:Value}{cs:List Value}{e:TypeId}(h:H[b]?=some (.cells cs.toArray e (0,0))) :
  (q97 H b o v)[b]?=some (.cells (cs.set o v).toArray e (0,0))∧∀i,i≠b→(q97 H b o v)[i]?=H[i]?:=by
 refine⟨?_,fun i hi=>?_⟩
 ·simp only [q97,Array.getElem?_modify,if_true,h,z9t];simp
 ·simp only [q97,Array.getElem?_modify];rw [if_neg (fun e=>hi e.symm)]
def q1l (cs:List Value):Nat→List Value→List Value
 | _,[]=>cs
 | o,v::r=>q1l (cs.set o v) (o+1) r
theorem Sat.set1 {H:Heap}{F:Assn}{b:Nat}{cs:List Value}{e:TypeId}(h:Sat H (cellsA b cs e*F))(o:Nat)(v:Value):Sat (q97 H b o v) (cellsA b (cs.set o v) e*F):=
 h.upd (qpz h.get).1 (qpz h.get).2
theorem Sat.sets {H:Heap}{F:Assn}{b:Nat}{e:TypeId}:∀(vs:List Value) {cs:List Value} (o:Nat),Sat H (cellsA b cs e*F)→Sat (q46 H b o vs) (cellsA b (q1l cs o vs) e*F)
 | [],cs,o,h=>h
 | v::r,cs,o,h=>by
  have:=Sat.set1 h o v;simp only [q46,q1l];exact Sat.sets r (o+1) this
theorem Sat.can {H:Heap}{F:Assn}{b:Nat}{cs:List Value}{e:TypeId}(h:Sat H (cellsA b cs e*F)):∀(vs:List Value) (o:Nat),o+vs.length≤cs.length→q38 H b o vs
 | [],_,_=>trivial
 | v::r,o,hl=>by
  simp only [z8y] at hl;refine⟨⟨?_,?_⟩,Sat.can h r (o+1) (by omega)⟩
  ·rw [h.cell]; simp; omega
  ·have:=h.get;simp only [q4f,this];simp
open Go
def star:List Assn→Assn
 | []=>emp
 | A::r=>A*star r
def SatL (H:Heap)(L:List Assn):Prop:=Sat H (star L)
def nth:Nat→List Assn→Assn
 | _,[]=>emp
 | 0,a::_=>a
 | n+1,_::r=>nth n r
def del:Nat→List Assn→List Assn
 | _,[]=>[]
 | 0,_::r=>r
 | n+1,a::r=>a::del n r
def put:Nat→Assn→List Assn→List Assn
 | _,A,[]=>[A]
 | 0,A,_::r=>A::r
 | n+1,A,a::r=>a::put n A r
def qzr:Nat→List Assn→List Assn
 | 0,L=>L
 | _,[]=>[]
 | n+1,_::r=>qzr n r
def ordL (is:List Nat)(L:List Assn):List Assn:=match is with
 | []=>[]
 | i::r=>nth i L::ordL r L
def ordT (is:List Nat)(n:Nat)(L:List Assn):List Assn:=match is with
 | []=>qzr n L
 | i::r=>nth i L::ordT r n L
theorem qav:∀(i:Nat) (L:List Assn),star L=nth i L*star (del i L)
 | _,[]=>by simp [nth,del,star,qbz]
 | 0,a::r=>rfl
 | n+1,a::r=>by
  have:=qav n r;simp only [nth,del,star];rw [this,q8d]
theorem qnb:∀(i:Nat) (A:Assn) (L:List Assn),star (put i A L)=A*star (del i L)
 | _,A,[]=>by simp [put,del,star]
 | 0,A,a::r=>rfl
 | n+1,A,a::r=>by
  have:=qnb n A r;simp only [put,del,star];rw [this,q8d]
theorem ql9:∀{i j:Nat} (L:List Assn),j≠i→nth j (put i emp L)=nth j L
 | i,j,[],h=>by
  cases j with
  | zero=>simp [put,nth]
  | succ n=>simp [put,nth]
 | 0,0,a::r,h=>absurd rfl h
 | 0,j+1,a::r,h=>rfl
 | i+1,0,a::r,h=>rfl
 | i+1,j+1,a::r,h=>by
  simp only [put,nth];exact ql9 r (by omega)
theorem qep {L L':List Assn}:∀{is:List Nat},(∀j∈is,nth j L=nth j L')→ordL is L=ordL is L'
 | [],_=>rfl
 | i::r,h=>by
  simp only [ordL];rw [h i (by simp),qep (is:=r) fun j hj=>h j (by simp [hj])]
theorem qu6 {H:Heap}:∀(is:List Nat) (L:List Assn) (F:Assn),is.Nodup→Sat H (star L*F)→Sat H (star (ordL is L)*F)
 | [],L,F,_,h=>by
  simp only [ordL,star,qbz];exact h.drop'
 | i::is,L,F,hn,h=>by
  rw [zav] at hn;have e:star L*F=star (put i emp L)*(nth i L*F):=by
   rw [qnb,qbz,qav i L];rw [qau (nth i L),q1t]
  rw [e] at h;have h2:=qu6 is _ _ hn.2 h;rw [qep (L:=put i emp L) (L':=L) (fun j hj=>ql9 L (fun (e:j=i)=>hn.1 (by rw [← e]; exact hj)))] at h2
  simp only [ordL,star];rw [q1t,q8d]; exact h2
theorem q8e:∀(a b:List Assn),star (a++b)=star a*star b
 | [],b=>by simp [star,qbz]
 | x::r,b=>by simp only [zaw,star]; rw [q8e r b,q1t]
def z4s:Nat→List Assn→List Assn
 | 0,_=>[]
 | _,[]=>[]
 | n+1,a::r=>a::z4s n r
theorem qq0:∀(n:Nat) (L:List Assn),L=z4s n L++qzr n L
 | 0,L=>rfl
 | n+1,[]=>rfl
 | n+1,a::r=>by simp only [z4s,qzr,zaw]; rw [← qq0 n r]
theorem qxf:∀{n j:Nat} (L:List Assn),j < n→nth j (z4s n L)=nth j L
 | 0,_,_,h=>absurd h (by omega)
 | n+1,j,[],h=>rfl
 | n+1,0,a::r,h=>rfl
 | n+1,j+1,a::r,h=>by simp only [z4s,nth]; exact qxf r (by omega)
theorem z4t (n:Nat)(L:List Assn):∀(is:List Nat),ordT is n L=ordL is L++qzr n L
 | []=>rfl
 | i::r=>by simp only [ordT,ordL,zaw]; rw [z4t n L r]
section
variable {H:Heap} {L:List Assn}
theorem SatL.foc (h:SatL H L)(i:Nat):Sat H (nth i L*star (del i L)):=by unfold SatL at h; rw [qav i L] at h; exact h
theorem SatL.back {i:Nat}{A:Assn}(h:Sat H (A*star (del i L))):SatL H (put i A L):=by unfold SatL; rw [qnb]; exact h
theorem SatL.ord (h:SatL H L)(is:List Nat)(hn:is.Nodup):SatL H (ordL is L):=by
 have h2:=qu6 is L emp hn (by rw [qu5]; exact h);rw [qu5] at h2;exact h2
theorem SatL.ordt (h:SatL H L)(is:List Nat)(n:Nat)(hn:is.Nodup)(hl:∀i∈is,i < n):SatL H (ordT is n L):=by
 unfold SatL at *;rw [qq0 n L,q8e] at h;have h2:=qu6 is _ _ hn h;rw [z4t,q8e];rw [qep (L':=L) fun j hj=>qxf L (hl j hj)] at h2
 exact h2
theorem SatL.o {H:Heap}{L:List Assn}(h:SatL H L)(is:List Nat)(n:Nat)(h1:is.Nodup:=by decide)(h2:∀i∈is,i < n:=by decide):SatL H (ordT is n L):=h.ordt is n h1 h2
theorem SatL.tl {A:Assn}(h:SatL H (A::L)):SatL H L:=Sat.drop' h
theorem SatL.consP {p:Prop}(h:SatL H (pur p::L)):p∧SatL H L:=z4q.1 h
theorem SatL.pur {p:Prop}(h:SatL H L)(hp:p):SatL H (pur p::L):=z4q.2 ⟨hp,h⟩
theorem SatL.mono {A B:Assn}(h:SatL H (A::L))(hk:∀h,A h→B h):SatL H (B::L):=Sat.frame h hk
theorem SatL.push (h:SatL H L)(o:Obj):SatL (H.push o) (pt H.size o::L):=Sat.push h o
def Grow (H H':Heap):Prop:=∀b,b < H.size→H'[b]?=H[b]?
theorem Grow.size {H H':Heap}(h:Grow H H'):H.size≤H'.size:=by
 rcases z9h H'.size H.size with hlt|hge
 ·have:=h H'.size hlt;simp [hlt] at this
 ·exact hge
theorem Grow.trans {H H' H'':Heap}(h:Grow H H')(h2:Grow H' H''):Grow H H'':=fun b hb=>(h2 b (Nat.lt_of_lt_of_le hb h.size)).trans (h b hb)
theorem Grow.push (H:Heap)(o:Obj):Grow H (H.push o):=fun b hb=>by rw [Array.getElem?_push,if_neg (by omega)]
theorem Sat.grow {H H':Heap}{F:Assn}(h:Sat H F)(g:Grow H H'):Sat H' F:=by
 obtain⟨p,h1,h2⟩:=h;exact⟨p,fun i o hi=>(g i (Array.getElem?_eq_some_iff.1 (h1 i o hi)).1).trans (h1 i o hi),h2⟩
theorem Sat.add {H:Heap}{F:Assn}{o:Obj}{b n:Nat}(hb:H[b]?=some o)(hf:∃H0:Heap,H0.size=n∧Sat H0 F∧Grow H0 H∧n≤b):Sat H (pt b o*F):=by
 obtain⟨H0,rfl,⟨p,h1,h2⟩,g,hle⟩:=hf;have hlt:∀i o',p i=some o'→i < H0.size:=fun i o' hi=>(Array.getElem?_eq_some_iff.1 (h1 i o' hi)).1
 refine⟨q12 (fun i=>if i=b then some o else none) p,fun i o1 h3=>?_,_,p,fun i=>?_,rfl,rfl,h2⟩
 ·simp only [q12] at h3
  by_cases hi:i=b
  ·subst hi; simp at h3; subst h3; exact hb
  ·simp only [if_neg hi] at h3;exact (g i (hlt i o1 h3)).trans (h1 i o1 h3)
 ·by_cases hi:i=b
  ·subst hi;right
   cases hp:p i with
   | none=>rfl
   | some o'=>have:=hlt _ _ hp; omega
  ·left; simp [hi]
theorem SatL.grow {H H':Heap}(h:SatL H L)(g:Grow H H'):SatL H' L:=Sat.grow h g
theorem SatL.new {H H':Heap}{b:Nat}{o:Obj}(h:SatL H L)(g:Grow H H')(hb:H.size≤b)(ho:H'[b]?=some o):SatL H' (pt b o::L):=
 Sat.add ho ⟨H,rfl,h,g,hb⟩
theorem q13 {α:Type}(l:List α)(n:Nat):lget l n=l[n]?:=by
 induction l generalizing n with
 | nil=>simp [lget]
 | cons a r ih=>cases n <;> simp [lget,ih]
theorem Sat.rdc {H:Heap}{A F:Assn}(h:Sat H (A*F)){b e:Nat}{cs:List Value}(hA:A=cellsA b cs e)(o:Nat):q02 H b o=lget cs o:=by
 subst hA;rw [h.cell,q13]
theorem SatL.rd (h:SatL H L)(i:Nat){b e:Nat}{cs:List Value}(hA:nth i L=cellsA b cs e)(o:Nat):q02 H b o=lget cs o:=(h.foc i).rdc hA o
theorem SatL.r {H:Heap}{L:List Assn}(h:SatL H L)(i:Nat){b e o:Nat}{cs:List Value}(hA:nth i L=cellsA b cs e:=by rfl):q02 H b o=lget cs o:=h.rd i hA o
theorem SatL.can (h:SatL H L)(i:Nat){b e:Nat}{cs:List Value}(hA:nth i L=cellsA b cs e)(o:Nat)(vs:List Value)(hl:o+vs.length≤cs.length):q38 H b o vs:=by
 have:=h.foc i;rw [hA] at this;exact this.can vs o hl
theorem SatL.set (h:SatL H L)(i:Nat){b e:Nat}{cs:List Value}(hA:nth i L=cellsA b cs e)(o:Nat)(vs:List Value):SatL (q46 H b o vs) (put i (cellsA b (q1l cs o vs) e) L):=by
 have:=h.foc i;rw [hA] at this;exact SatL.back (Sat.sets vs o this)
theorem SatL.was (h:SatL H L)(i:Nat){H0:Heap}(hA:nth i L=old H0){b:Nat}(hb:b < H0.size):H[b]?=H0[b]?:=by
 have:=h.foc i;rw [hA] at this;exact this.was hb
theorem SatL.cell0 (h:SatL H L)(i:Nat){H0:Heap}(hA:nth i L=old H0){b o:Nat}{v:Value}(hc:q02 H0 b o=some v):q02 H b o=some v:=by
 have:=h.foc i;rw [hA] at this;exact this.cell_old hc
end
open Go
structure SlT (P:Program)(t e sz bytes:Nat):Prop where
 und:P.underlying t=some (.slice e)
 pos:0 < sz
 info:∃i z,P.info? e=some i∧i.zero=some z∧i.size=sz∧i.bytes=bytes∧z.cells.size=sz
def slTB (P:Program)(t e sz bytes:Nat):Bool:=
 match P.underlying t,P.info? e with
 | some (.slice e'),some i=>(match i.zero with
  | some z=>Nat.beq e' e && Nat.blt 0 sz && Nat.beq i.size sz && Nat.beq i.bytes bytes && Nat.beq z.cells.size sz
  | none=>false)
 | _,_=>false
theorem q9n {P:Program}{t e sz bytes:Nat}(h:slTB P t e sz bytes=true):SlT P t e sz bytes:=by
 unfold slTB at h
 split at h
 ·rename_i e' i hu hi
  split at h
  ·rename_i z hz;simp only [z8w] at h;obtain⟨⟨⟨⟨h1,h2⟩,h3⟩,h4⟩,h5⟩:=h;have h1:=zam h1;subst h1;exact⟨hu,zb7 h2,i,z,hi,hz,zam h3,zam h4,zam h5⟩
  ·cases h
 ·cases h
def rdS (H:Heap)(a:Option Addr)(cs:List Value):Prop:=∀j v,lget cs j=some v→a=some ⟨adrB a,adrO a,none⟩∧q02 H (adrB a) (adrO a+j)=some v
theorem q9o {α:Type}{l:List α}{j:Nat}{v:α}(h:lget l j=some v):j < l.length:=by
 rw [q13] at h;exact (List.getElem?_eq_some_iff.1 h).1
theorem qd5 {α:Type}{l:List α}{j:Nat}(h:j < l.length):lget l j=some l[j]:=by rw [q13,List.getElem?_eq_getElem h]
theorem q9p (H:Heap)(a:Option Addr):rdS H a []:=fun j v h=>by simp [lget] at h
theorem rdS.take {H:Heap}{a:Option Addr}{cs:List Value}(h:rdS H a cs)(n:Nat):rdS H a (cs.take n):=fun j v hj=>h j v (by
 rw [q13] at hj ⊢;rw [List.getElem?_take] at hj
 split at hj
 ·exact hj
 ·cases hj)
theorem Sat.cellG {H:Heap}{F:Assn}{b e:Nat}{cs:List Value}{fr:Nat × Nat}(h:Sat H (pt b (.cells cs.toArray e fr)*F))(o:Nat):q02 H b o=cs[o]?:=by
 have:=h.get;simp [q02,this]
theorem qla {H:Heap}{b o e:Nat}{v:Value}{cs:List Value}{fr:Nat × Nat}(h:H[b]?=some (.cells cs.toArray e fr)) :
  (q97 H b o v)[b]?=some (.cells (cs.set o v).toArray e fr)∧∀i,i≠b→(q97 H b o v)[i]?=H[i]?:=by
 refine⟨?_,fun i hi=>?_⟩
 ·simp only [q97,Array.getElem?_modify,if_true,h,z9t];simp
 ·simp only [q97,Array.getElem?_modify];rw [if_neg (fun e=>hi e.symm)]
theorem Sat.setsG {H:Heap}{F:Assn}{b e:Nat}{fr:Nat × Nat}:∀(vs:List Value) {cs:List Value} (o:Nat),Sat H (pt b (.cells cs.toArray e fr)*F)→Sat (q46 H b o vs) (pt b (.cells (q1l cs o vs).toArray e fr)*F)
 | [],cs,o,h=>h
 | v::r,cs,o,h=>by
  have:=h.upd (qla (o:=o) (v:=v) h.get).1 (qla h.get).2;simp only [q46,q1l];exact Sat.setsG r (o+1) this
theorem Sat.canG {H:Heap}{F:Assn}{b e:Nat}{cs:List Value}{fr:Nat × Nat}(h:Sat H (pt b (.cells cs.toArray e fr)*F)):∀(vs:List Value) (o:Nat),o+vs.length≤cs.length→(∀i,o≤i→i < o+vs.length→¬(fr.1≤i∧i < fr.2))→q38 H b o vs
 | [],_,_,_=>trivial
 | v::r,o,hl,hf=>by
  simp only [z8y] at hl hf;refine⟨⟨?_,?_⟩,Sat.canG h r (o+1) (by omega) fun i h1 h2=>hf i (by omega) (by omega)⟩
  ·rw [h.cellG]; simp; omega
  ·have:=h.get;have hn:=hf o (z91 _) (by omega);simp only [q4f,this];simp only [za2,z8x];omega
def slA (e sz:Nat)(a:Option Addr)(n c:Nat)(cs:List Value):Assn:=fun h=>
 cs.length=n*sz∧((a=none∧n=0∧c=0∧h=qby)∨
  ∃b pre post e' fr,a=some ⟨b,pre.length,none⟩∧n≤c∧(c - n)*sz≤post.length∧(e=e→∀i,pre.length≤i→i < pre.length+c*sz→¬(fr.1≤i∧i < fr.2))∧pt b (.cells (pre++cs++post).toArray e' fr) h)
section
variable {H:Heap} {F:Assn} {e sz n c:Nat} {a:Option Addr} {cs:List Value}
theorem qi2 (h:Sat H F):Sat H (slA e sz none 0 0 []*F):=by
 have:Sat H (emp*F):=by rw [qbz]; exact h
 exact this.frame fun p hp=>⟨by simp,.inl ⟨rfl,rfl,rfl,hp⟩⟩
theorem slA_pt {b:Nat}(h:Sat H (cellsA b cs e*F))(hl:cs.length=n*sz):Sat H (slA e sz (some ⟨b,0,none⟩) n n cs*F):=
 h.frame fun p hp=>⟨hl,.inr ⟨b,[],[],e,(0,0),rfl,z91 _,by simp,fun _ i _ _ hh=>by simp at hh,by simpa [cellsA] using hp⟩⟩
theorem q3i (h:Sat H (slA e sz a n c cs*F)):cs.length=n*sz∧((a=none∧n=0∧c=0∧Sat H F)∨
  ∃b pre post e' fr,a=some ⟨b,pre.length,none⟩∧n≤c∧(c - n)*sz≤post.length∧(∀i,pre.length≤i→i < pre.length+c*sz→¬(fr.1≤i∧i < fr.2))∧Sat H (pt b (.cells (pre++cs++post).toArray e' fr)*F)):=by
 obtain⟨g,h1,x,y,hd,rfl,hx,hy⟩:=h;refine⟨hx.1,?_⟩
 rcases hx.2 with ⟨h2,h3,h4,h5⟩|⟨b,pre,post,e',fr,h2,h3,h4,hf,h5⟩
 ·left;refine⟨h2,h3,h4,_,h1,?_⟩;rw [h5,q4h]; exact hy
 ·right;exact⟨b,pre,post,e',fr,h2,h3,h4,hf rfl,_,h1,x,y,hd,rfl,h5,hy⟩
theorem slA_nc (h:Sat H (slA e sz a n c cs*F)):n≤c:=by
 rcases (q3i h).2 with ⟨h2,h3,h4,h5⟩|⟨b,pre,post,e',fr,h2,h3,h4,hf,h5⟩ <;> omega
theorem z4u (h:Sat H (slA e sz a n c cs*F)):rdS H a cs:=by
 obtain⟨hl,h2⟩:=q3i h;intro j v hj;have hlt:=q9o hj
 rcases h2 with ⟨h2,h3,h4,h5⟩|⟨b,pre,post,e',fr,h2,h3,h4,hf,h5⟩
 ·subst h3; simp [hl] at hlt
 ·subst h2;refine⟨rfl,?_⟩;show q02 H b (pre.length+j)=some v;rw [h5.cellG];rw [z93,List.getElem?_append_right (by omega),zb8,List.getElem?_append_left hlt,← q13];exact hj
theorem q5o:∀(vs cs:List Value) (o:Nat),(q1l cs o vs).length=cs.length
 | [],_,_=>rfl
 | v::r,cs,o=>by simp only [q1l]; rw [q5o r]; simp
theorem qq1:∀(vs pre cs post:List Value) (o:Nat),o+vs.length≤cs.length→q1l (pre++cs++post) (pre.length+o) vs=pre++q1l cs o vs++post
 | [],_,_,_,_,_=>rfl
 | v::r,pre,cs,post,o,h=>by
  simp only [z8y] at h;simp only [q1l];have:=qq1 r pre (cs.set o v) post (o+1) (by simp; omega);rw [← za0] at this;rw [← this];congr 1;rw [z93,z93,List.set_append_right _ _ (by omega),zb8,List.set_append_left _ _ (by omega)]
theorem q69:∀(vs pre post:List Value),vs.length≤post.length→q1l (pre++post) pre.length vs=pre++vs++post.drop vs.length
 | [],_,_,_=>by simp [q1l]
 | v::r,pre,[],h=>by simp at h
 | v::r,pre,p::post,h=>by
  simp only [q1l];have:=q69 r (pre++[v]) post (by simpa using h);simp only [z8t,z8y,z9j,z9e,z93,zaw,za7] at this;simp only [z8y,zax,z93,zaw];rw [← this];congr 1;rw [List.set_append_right _ _ (by omega)];simp
theorem slA_set (h:Sat H (slA e sz a n c cs*F))(o:Nat)(vs:List Value)(hl:o+vs.length≤cs.length)(h0:vs≠[]) :
  a=some ⟨adrB a,adrO a,none⟩∧q38 H (adrB a) (adrO a+o) vs∧Sat (q46 H (adrB a) (adrO a+o) vs) (slA e sz a n c (q1l cs o vs)*F):=by
 obtain⟨hlen,h2⟩:=q3i h
 rcases h2 with ⟨h2,h3,h4,h5⟩|⟨b,pre,post,e',fr,h2,h3,h4,hf,h5⟩
 ·subst h3
  cases vs with
  | nil=>exact absurd rfl h0
  | cons v r=>simp at hl; omega
 ·subst h2;have hcn:n*sz≤c*sz:=z9y _ h3;refine⟨rfl,h5.canG vs _ (by simp [adrO]; omega) (fun i h6 h7=>hf i (by simp only [adrO] at h6; omega) (by simp only [adrO] at h7; omega)),?_⟩
  have:=Sat.setsG vs (pre.length+o) h5;rw [qq1 _ _ _ _ _ hl] at this;exact this.frame fun p hp=>⟨by rw [q5o]; exact hlen,.inr ⟨b,pre,post,e',fr,rfl,h3,h4,fun _=>hf,hp⟩⟩
theorem q3j (b o n:Nat):(⟨b,o,none⟩:Addr).add n=⟨b,o+n,none⟩:=by
 unfold Addr.add; split <;> simp_all
theorem q3v {P:Program}{w:World}{m:Nat}{a2:Option Addr}{c2:Nat}{ws:List Value}(hw:rdS w.heap a2 ws)(hl:ws.length=m*sz) :
  (Builtin.firstCells sz m (.slice a2 m c2)).run P w=.ok ws.toArray w:=by
 cases a2 with
 | none=>
  have:ws=[]:=by
   cases ws with
   | nil=>rfl
   | cons v r=>have:=(hw 0 v rfl).1; simp at this
  subst this;exact run_firstCells_none w sz m m c2
 | some a=>
  refine run_firstCells_some w sz m a m c2 ws hl fun j v hj=>?_
  have h:=hw j v (by rw [q13]; exact hj);simp only [Option.some.injEq] at h;rw [h.1,q3j];have h2:=h.2;unfold World.cell?;unfold q02 at h2;simp only [Option.isSome_none,adrB,adrO] at h2 ⊢
  split at h2
  ·rename_i cc x1 x2 hb; rw [hb]; exact h2
  ·cases h2
theorem qzs {P:Program}{t bytes m c2 ty:Nat}(T:SlT P t e sz bytes){a2:Option Addr}{ws:List Value}{K:Value→Heap→Prop}(h:Sat H (slA e sz a n c cs*F))(hw:rdS H a2 ws)(hl:ws.length=m*sz)(hp:q09 ws=true)
  (hb:(n+m)*bytes≤140737488355328) (hn:n+m≤140737488355328)
  (k:∀a' c' H',Sat H' (slA e sz a' (n+m) c' (cs++ws)*F)→K (.slice a' (n+m) c') H') :
  RunW P (Builtin.append_ #[t,t] ty #[.slice a n c,.slice a2 m c2]) H K:=by
 obtain⟨ht,hsz,i,z,hi,hz,rfl,rfl,hzs⟩:=T;intro w hw0;subst hw0;obtain⟨hlen,h2⟩:=q3i h;have h63:¬(9223372036854775807 < (n:Int)+(m:Int)):=by omega
 have hfw:=q3v (P:=P) (w:=w) (c2:=c2) hw hl;have hfd:=q3v (P:=P) (w:=w.drew) (c2:=c2) hw hl;have hfo:=q3v (P:=P) (w:=w.drew) (a2:=a) (m:=n) (c2:=c) (z4u h) hlen
 by_cases hroom:n+m≤c
 ·rcases h2 with ⟨h2,h3,h4,h5⟩|⟨b,pre,post,e',fr,h2,h3,h4,hf,h5⟩
  ·subst h2; subst h3; subst h4;obtain rfl:m=0:=by omega
   obtain rfl:ws=[]:=zag (by simpa using hl);obtain rfl:cs=[]:=zag (by simpa using hlen);refine⟨.slice none (0+0) 0,w,?_,Rest.refl w,k _ _ _ (qi2 h5)⟩;simp [Builtin.append_,run_underlying ht,sizeOf,typeInfo,hi,Builtin.lenOf,hfw]
  ·subst h2;have hfit:ws.length≤post.length:=by
    refine z95 ?_ h4;rw [hl];exact z9y _ (by omega)
   have hnm:(n+m)*i.size≤c*i.size:=z9y _ hroom;rw [z9p] at hnm;have hcan:q38 w.heap b (pre.length+n*i.size) ws:=h5.canG ws _ (by simp [hlen]; omega) fun j h6 h7=>hf j (by omega) (by omega)
   obtain⟨w',h6,h7,h8⟩:=q30 (P:=P) (b:=b) ws (pre.length+n*i.size) 0 w (by simpa using hcan) (by simpa using q68 _ _ hcan) hp;refine⟨.slice (some ⟨b,pre.length,none⟩) (n+m) c,w',?_,h7,k _ _ _ ?_⟩
   ·simp [Builtin.append_,run_underlying ht,sizeOf,typeInfo,hi,Builtin.lenOf,hroom,hfw,q3j,h6]
   ·rw [h8];have h9:=Sat.setsG ws (pre.length+n*i.size) h5;have e1:pre.length+n*i.size=(pre++cs).length:=by simp [hlen]
    rw [e1,q69 _ _ _ hfit] at h9;rw [zap,e1];refine h9.frame fun p hp=>⟨by simp [hlen,hl,z9p],.inr ⟨b,pre,post.drop ws.length,e',fr,rfl,hroom,?_,fun _=>hf,by simpa using hp⟩⟩
    rw [z9m,hl];have:(c - (n+m))*i.size+m*i.size=(c - n)*i.size:=by rw [← z9p]; congr 1; omega
    omega
 ·have h48:¬(281474976710656 < Builtin.nextslicecap (n+m) c*i.bytes):=by
   have:=growslice_fits (need:=n+m) (old:=c) (bytes:=i.bytes) (by omega) hb;omega
  refine⟨.slice (some ⟨w.heap.size,0,none⟩) (n+m) (grownCap w (n+m) c e),w.drew.alloc (.cells (cs.toArray++ws.toArray++Builtin.zeroCells z.cells (grownCap w (n+m) c e - (n+m))) e),?_,⟨rfl,rfl,rfl⟩,k _ _ _ ?_⟩
  ·simp [Builtin.append_,run_underlying ht,sizeOf,typeInfo,zeroValue,hi,hz,Builtin.lenOf,hroom,h63,h48,Question.forced,hfo,hfd,newRow,grownCap];congr 2;apply Array.ext';simp [z93]
  ·have h5:Sat w.heap F:=h.drop';have h6:=h5.push (.cells (cs.toArray++ws.toArray++Builtin.zeroCells z.cells (grownCap w (n+m) c e - (n+m))) e);have hge:=grownCap_ge w (n+m) c e;refine h6.frame fun p hp=>⟨by simp [hlen,hl,z9p],.inr ⟨w.heap.size,[],(Builtin.zeroCells z.cells (grownCap w (n+m) c e - (n+m))).toList,e,(0,0),rfl,hge,?_,fun _ i _ _ hh=>by simp at hh,?_⟩⟩
   ·rw [za1,size_zeroCells,hzs];exact z91 _
   ·have e2:(([]:List Value)++(cs++ws)++(Builtin.zeroCells z.cells (grownCap w (n+m) c e - (n+m))).toList).toArray=cs.toArray++ws.toArray++Builtin.zeroCells z.cells (grownCap w (n+m) c e - (n+m)):=by
     apply Array.ext'; simp
    rw [e2];exact hp
end
section
variable {H:Heap} {L:List Assn} {e sz n c:Nat} {a:Option Addr} {cs:List Value}
theorem SatL.sl_rd (h:SatL H L)(i:Nat)(hA:nth i L=slA e sz a n c cs):rdS H a cs:=z4u (F:=star (del i L)) (by have:=h.foc i; rw [hA] at this; exact this)
theorem SatL.sl_nc (h:SatL H L)(i:Nat)(hA:nth i L=slA e sz a n c cs):n≤c:=slA_nc (F:=star (del i L)) (by have:=h.foc i; rw [hA] at this; exact this)
theorem SatL.sl_nil (h:SatL H L)(e sz:Nat):SatL H (slA e sz none 0 0 []::L):=qi2 h
theorem SatL.sl_pt {b:Nat}(h:SatL H (pt b (.cells cs.toArray e (0,0))::L))(sz n:Nat)(hl:cs.length=n*sz):SatL H (slA e sz (some ⟨b,0,none⟩) n n cs::L):=slA_pt h hl
theorem SatL.sl_set (h:SatL H L)(i:Nat)(hA:nth i L=slA e sz a n c cs)(o:Nat)(vs:List Value)(hl:o+vs.length≤cs.length)(h0:vs≠[]) :
  a=some ⟨adrB a,adrO a,none⟩∧q38 H (adrB a) (adrO a+o) vs∧SatL (q46 H (adrB a) (adrO a+o) vs) (put i (slA e sz a n c (q1l cs o vs)) L):=by
 have:=h.foc i;rw [hA] at this;obtain⟨h1,h2,h3⟩:=slA_set this o vs hl h0;exact⟨h1,h2,SatL.back h3⟩
theorem SatL.append {P:Program}{t bytes m c2 ty:Nat}(T:SlT P t e sz bytes){a2:Option Addr}{ws:List Value}{K:Value→Heap→Prop}(h:SatL H L)(i:Nat)(hA:nth i L=slA e sz a n c cs)(hw:rdS H a2 ws)(hl:ws.length=m*sz)(hp:q09 ws=true)
  (hb:(n+m)*bytes≤140737488355328) (hn:n+m≤140737488355328)
  (k:∀a' c' H',SatL H' (put i (slA e sz a' (n+m) c' (cs++ws)) L)→K (.slice a' (n+m) c') H') :
  RunW P (Builtin.append_ #[t,t] ty #[.slice a n c,.slice a2 m c2]) H K:=by
 have h2:=h.foc i;rw [hA] at h2;exact qzs T h2 hw hl hp hb hn fun a' c' H' h3=>k a' c' H' (SatL.back h3)
theorem SatL.append1 {P:Program}{t bytes ty e2:Nat}(T:SlT P t e sz bytes){ws:List Value}{K:Value→Heap→Prop}(h:SatL H L)(i:Nat)(hA:nth i L=slA e sz a n c cs)(hl:ws.length=sz)(hp:q09 ws=true)
  (hb:(n+1)*bytes≤140737488355328) (hn:n+1≤140737488355328)
  (k:∀a' c' H',SatL H' (put i (slA e sz a' (n+1) c' (cs++ws)) L)→K (.slice a' (n+1) c') H') :
  RunW P (Builtin.append_ #[t,t] ty #[.slice a n c,.slice (some ⟨H.size,0,none⟩) 1 1]) (H.push (.cells ws.toArray e2 (0,0))) K:=by
 have g:=Grow.push H (.cells ws.toArray e2 (0,0));refine SatL.append T (h.grow g) i hA (ws:=ws) (fun j v hj=>⟨rfl,?_⟩) (by simpa using hl) hp hb hn k
 simp only [adrB,adrO,z9e];rw [q13] at hj;simp [q02,hj]
end
open Go
theorem q63 {α β:Type}(f:α→β):∀(l:List α) (i:Nat),(l.eraseIdx i).map f=(l.map f).eraseIdx i
 | [],_=>rfl
 | a::r,0=>rfl
 | a::r,i+1=>by simp only [List.eraseIdx_cons_succ,z9n]; rw [q63 f r i]
section
variable {κ α:Type} [DecidableEq κ]
def q08 (x:κ):List (κ × α)→Option α
 | []=>none
 | (y,v)::r=>if x=y then some v else q08 x r
def mdel (x:κ)(m:List (κ × α)):List (κ × α):=m.filter fun p=>decide (p.1≠x)
def mset (x:κ)(v:α)(m:List (κ × α)):List (κ × α):=(x,v)::mdel x m
abbrev q00 (m:List (κ × α)):List κ:=m.map Prod.fst
theorem q0e {x:κ}{v:α}:∀{m:List (κ × α)},q08 x m=some v→(x,v)∈m
 | [],h=>by simp [q08] at h
 | (y,u)::r,h=>by
  simp only [q08] at h
  split at h
  ·rename_i e; subst e; cases h; simp
  ·exact z99 _ (q0e h)
theorem q28 {x:κ}{v:α}:∀{m:List (κ × α)},(q00 m).Nodup→(x,v)∈m→q08 x m=some v
 | [],_,h=>by simp at h
 | (y,u)::r,hn,h=>by
  simp only [q00,z9n,zav] at hn;simp only [q08]
  rcases z96.1 h with h1|h1
  ·cases h1; simp
  ·rw [if_neg]
   ·exact q28 hn.2 h1
   ·intro e;exact hn.1 (z90.2 ⟨(x,v),h1,e⟩)
theorem q0h {x:κ}:∀{m:List (κ × α)},q08 x m=none↔x∉q00 m
 | []=>by simp [q08]
 | (y,u)::r=>by
  simp only [q08,q00,z9n,z96,not_or]
  split
  ·rename_i e; simp [e]
  ·rename_i e;rw [q0h (m:=r)]; simp [e]
theorem q47 {x:κ}{m m':List (κ × α)}(hn:(q00 m).Nodup)(hp:m.Perm m'):q08 x m=q08 x m':=by
 have hn':(q00 m').Nodup:=(hp.map Prod.fst).nodup_iff.1 hn
 cases h:q08 x m with
 | none=>
  rw [q0h] at h;exact (q0h.2 fun h2=>h ((hp.map Prod.fst).mem_iff.2 h2)).symm
 | some v=>exact (q28 hn' (hp.mem_iff.1 (q0e h))).symm
theorem qq2 {x:κ}{m m':List (κ × α)}(hp:m.Perm m'):(mdel x m).Perm (mdel x m'):=hp.filter _
theorem qaw {x:κ}{p:κ × α}{m:List (κ × α)}:p∈mdel x m↔p∈m∧p.1≠x:=by simp [mdel]
theorem qax {x:κ}{m:List (κ × α)}(hn:(q00 m).Nodup):(q00 (mdel x m)).Nodup:=hn.sublist (List.Sublist.map _ List.filter_sublist)
theorem q6a {x:κ}{v:α}{m:List (κ × α)}(hn:(q00 m).Nodup):(q00 (mset x v m)).Nodup:=by
 simp only [q00,mset,z9n,zav];refine⟨fun h=>?_,qax hn⟩
 obtain⟨p,hp,e⟩:=z90.1 h;exact (qaw.1 hp).2 e
theorem q0y {x:κ}{m:List (κ × α)}(h:q08 x m=none):mdel x m=m:=by
 rw [q0h] at h;unfold mdel;rw [List.filter_eq_self];intro p hp;simp only [z8u];intro e; subst e;exact h (z90.2 ⟨p,hp,rfl⟩)
theorem q8f {x y:κ}(h:y≠x):∀{m:List (κ × α)},q08 y (mdel x m)=q08 y m
 | []=>rfl
 | (z,u)::r=>by
  have ih:=q8f h (m:=r);simp only [mdel,z9x] at ih ⊢
  split
  ·simp only [q08]; split
   ·rfl
   ·exact ih
  ·rename_i hz;simp only [z8u,ne_eq,Decidable.not_not] at hz;simp only [q08];rw [if_neg (by rw [hz]; exact h)];exact ih
theorem qi3 {x:κ}{m:List (κ × α)}:q08 x (mdel x m)=none:=by
 rw [q0h];intro h;obtain⟨p,hp,e⟩:=z90.1 h;exact (qaw.1 hp).2 e
theorem q3k {x y:κ}{v:α}{m:List (κ × α)}:q08 y (mset x v m)=if y=x then some v else q08 y m:=by
 simp only [mset,q08]
 split
 ·rfl
 ·rename_i h; exact q8f h
theorem qlb {x y:κ}{m:List (κ × α)}:q08 y (mdel x m)=if y=x then none else q08 y m:=by
 split
 ·rename_i h; subst h; exact qi3
 ·rename_i h; exact q8f h
theorem z4v {x:κ}{v:α}{m m':List (κ × α)}(hp:m.Perm m'):(mset x v m).Perm (mset x v m'):=(qq2 hp).cons _
theorem q9q {x:κ}{v:α}{m:List (κ × α)}(h:q08 x m=none):(mset x v m).length=m.length+1:=by simp [mset,q0y h]
theorem qi4 {x:κ}{v:α}:∀{m:List (κ × α)},(q00 m).Nodup→q08 x m=some v→(mdel x m).length+1=m.length
 | [],_,h=>by simp [q08] at h
 | (y,u)::r,hn,h=>by
  simp only [q00,z9n,zav] at hn;simp only [q08] at h
  by_cases e:x=y
  ·subst e;have:q08 x r=none:=q0h.2 hn.1;have h2:=q0y this;have h3:mdel x ((x,u)::r)=mdel x r:=by simp [mdel,z9x]
   rw [h3,h2]; rfl
  ·rw [if_neg e] at h;have ih:=qi4 hn.2 h;simp only [mdel,z9x] at ih ⊢;rw [if_pos (by simpa using fun e2=>e e2.symm)]
   simp only [z8y];omega
theorem q9r {x:κ}{v u:α}{m:List (κ × α)}(hn:(q00 m).Nodup)(h:q08 x m=some u):(mset x v m).length=m.length:=by
 have:=qi4 hn h;simp only [mset,z8y]; omega
theorem getElem?_of_mlook {x:κ}{v:α}{m:List (κ × α)}(h:q08 x m=some v):∃i:Nat,m[i]?=some (x,v)∧∀j,j < i→(q00 m)[j]?≠some x:=by
 induction m with
 | nil=>simp [q08] at h
 | cons p r ih=>
  obtain⟨y,u⟩:=p;simp only [q08] at h
  split at h
  ·rename_i e; subst e; cases h;exact⟨0,rfl,fun j hj=>absurd hj (by omega)⟩
  ·rename_i e;obtain⟨i,h1,h2⟩:=ih h;refine⟨i+1,by simpa using h1,fun j hj=>?_⟩
   cases j with
   | zero=>simp [q00]; exact fun e2=>e e2.symm
   | succ j=>simpa [q00] using h2 j (by omega)
theorem q7a {x:κ}{v:α}{m:List (κ × α)}(hn:(q00 m).Nodup){i:Nat}(hi:m[i]?=some (x,v)):m.eraseIdx i=mdel x m:=by
 induction m generalizing i with
 | nil=>simp at hi
 | cons p r ih=>
  simp only [q00,z9n,zav] at hn
  cases i with
  | zero=>
   simp at hi; subst hi;have:q08 x r=none:=q0h.2 hn.1;have h2:=q0y this;have h3:mdel x ((x,v)::r)=mdel x r:=by simp [mdel,z9x]
   rw [h3,h2]; rfl
  | succ i=>
   simp only [List.getElem?_cons_succ] at hi;have ih:=ih hn.2 hi;simp only [List.eraseIdx_cons_succ,ih];simp only [mdel,z9x];rw [if_pos];simp only [z8u];intro e;exact hn.1 (z90.2 ⟨_,z9i hi,e.symm⟩)
theorem qnc {x:κ}{v u:α}{m:List (κ × α)}(hn:(q00 m).Nodup){i:Nat}(hi:m[i]?=some (x,v)):(m.set i (x,u)).Perm (mset x u m):=by
 have h:=q7a hn hi;have hlt:i < m.length:=(List.getElem?_eq_some_iff.1 hi).1;unfold mset;rw [← h];rw [List.set_eq_take_append_cons_drop,if_pos hlt,List.eraseIdx_eq_take_drop_succ];exact List.perm_middle
end
structure q9s {κ:Type}(P:Program)(k:TypeId)(kenc:κ→Value):Prop where
 inj:∀x y,kenc x=kenc y→x=y
 chk:∀(em:Bool) (x:κ) (w:World),(Instr.checkKey em 10000 k (kenc x)).run P w=.ok () w
 non:∀(x:κ) (ks:List κ) (es:List MapEntry) (w:World),es.map (·.key)=ks.map kenc→x∉ks→(Instr.findKey k (kenc x) es).run P w=.ok none w
 fnd:∀(x:κ) (ks:List κ) (es:List MapEntry) (w:World) (i:Nat) (e:MapEntry),es.map (·.key)=ks.map kenc→ks[i]?=some x→(∀j,j < i→ks[j]?≠some x)→es[i]?=some e→(Instr.findKey k (kenc x) es).run P w=.ok (some (i,e.val)) w
 stay:∀(x:κ) (w:World),(Instr.keyThatStays (kenc x) (kenc x)).run P w=.ok (kenc x) w
theorem qc0 {kk kd:IntKind}(x:Int):∀(es:List MapEntry) (ks:List Int) (i:Nat),es.map (·.key)=ks.map (Value.int kk)→
  (x∉ks→Instr.findNow (.int kd) (.int kk x) es i=some none)∧∀j e,ks[j]?=some x→(∀l,l < j→ks[l]?≠some x)→es[j]?=some e→Instr.findNow (.int kd) (.int kk x) es i=some (some (i+j,e.val))
 | [],[],i,_=>⟨fun _=>rfl,fun j e h=>by simp at h⟩
 | [],_::_,i,h=>by simp at h
 | _::_,[],i,h=>by simp at h
 | e0::es,y::ks,i,h=>by
  simp only [z9n,List.cons.injEq] at h;obtain⟨ih1,ih2⟩:=qc0 (kd:=kd) x es ks (i+1) h.2
  by_cases e:x=y
  ·subst e;refine⟨fun hx=>absurd (by simp) hx,fun j e1 hj hl he=>?_⟩
   have:j=0:=by
    cases j with
    | zero=>rfl
    | succ j=>exact absurd rfl (hl 0 (by omega))
   subst this;simp at he; subst he;simp [Instr.findNow,Instr.sameNow,h.1]
  ·refine⟨fun hx=>?_,fun j e1 hj hl he=>?_⟩
   ·simp only [z96,not_or] at hx;have e':(x == y)=false:=by simpa using e
    simp [Instr.findNow,Instr.sameNow,h.1,e',ih1 hx.2]
   ·cases j with
    | zero=>simp at hj; exact absurd hj.symm e
    | succ j=>
     have:=ih2 j e1 (by simpa using hj) (fun l hl'=>by simpa using hl (l+1) (by omega)) (by simpa using he)
     have e':(x == y)=false:=by simpa using e
     simp only [Instr.findNow,Instr.sameNow,h.1,e',this,if_true];rw [show i+1+j=i+(j+1) by omega]
theorem qi5 {P:Program}{k:TypeId}{kd:IntKind}(h:P.underlying k=some (.int kd)):q9s P k (Value.int kd) where
 inj x y h:=by cases h; rfl
 chk em x w:=by
  show (Instr.checkKey em (9999+1) k (Value.int kd x)).run P w=.ok () w;generalize 9999=n;simp [Instr.checkKey,run_underlying h]
 non x ks es w hk hx:=by simp [Instr.findKey,run_underlying h,(qc0 (kd:=kd) x es ks 0 hk).1 hx]
 fnd x ks es w i e hk h1 h2 h3:=by simp [Instr.findKey,run_underlying h,(qc0 (kd:=kd) x es ks 0 hk).2 i e h1 h2 h3]
 stay x w:=by
  have:Instr.sameBits 10000 (Value.int kd x) (Value.int kd x)=true:=by
   generalize 10000=n;unfold Instr.sameBits; simp
  simp [Instr.keyThatStays,this]
structure MapT {α:Type}(P:Program)(t k e:Nat)(venc:α→Value)(z:α):Prop where
 und:P.underlying t=some (.map k e)
 info:∃i,P.info? e=some i∧i.zero=some (venc z)
def mapA {κ α:Type}(kenc:κ→Value)(venc:α→Value)(r:Nat)(m:List (κ × α)):Assn:=fun h=>
 (q00 m).Nodup∧∃es clock,(∃ml:List (κ × α),ml.Perm m∧es.toList.map (fun e:MapEntry=>(e.key,e.val))=ml.map fun p=>(kenc p.1,venc p.2))∧
  (es.toList.map (·.born)).Nodup∧(∀e∈es.toList,e.born < clock)∧pt r (.map es clock) h
section
variable {κ α:Type} {kenc:κ→Value} {venc:α→Value} {r:Nat} {m m':List (κ × α)} {H:Heap} {F:Assn} {P:Program}
theorem q6k (hp:m.Perm m'):mapA kenc venc r m=mapA kenc venc r m':=by
 funext h;apply propext;have key:∀{a b:List (κ × α)},a.Perm b→mapA kenc venc r a h→mapA kenc venc r b h:=by
  rintro a b hab ⟨hn,es,clock,⟨ml,h1,h2⟩,h3,h4,h5⟩;exact⟨(hab.map Prod.fst).nodup_iff.1 hn,es,clock,⟨ml,h1.trans hab,h2⟩,h3,h4,h5⟩
 exact⟨key hp,key hp.symm⟩
theorem q2u (h:Sat H (mapA kenc venc r m*F)):(q00 m).Nodup∧∃es clock,(∃ml:List (κ × α),ml.Perm m∧es.toList.map (fun e:MapEntry=>(e.key,e.val))=ml.map fun p=>(kenc p.1,venc p.2))∧
  (es.toList.map (·.born)).Nodup∧(∀e∈es.toList,e.born < clock)∧Sat H (pt r (.map es clock)*F):=by
 obtain⟨g,h1,x,y,hd,rfl,⟨hn,es,clock,h2,h3,h4,h5⟩,hy⟩:=h;exact⟨hn,es,clock,h2,h3,h4,_,h1,x,y,hd,rfl,h5,hy⟩
theorem mapA_new (h:Sat H (pt r (.map #[] 0)*F)):Sat H (mapA kenc venc r []*F):=
 h.frame fun p hp=>⟨by simp,#[],0,⟨[],.refl _,rfl⟩,by simp,by simp,hp⟩
theorem qlc {es:Array MapEntry}{ml:List (κ × α)}(h:es.toList.map (fun e:MapEntry=>(e.key,e.val))=ml.map fun p=>(kenc p.1,venc p.2)) :
  es.toList.map (·.key)=(q00 ml).map kenc∧∀(i:Nat) x v,ml[i]?=some (x,v)→∃e:MapEntry,es.toList[i]?=some e∧e.key=kenc x∧e.val=venc v:=by
 constructor
 ·have:=congrArg (List.map Prod.fst) h;simpa [q00,Function.comp_def] using this
 ·intro i x v hi;have h2:=congrArg (fun l=>l[i]?) h
  simp only [List.getElem?_map,hi,z9t] at h2
  cases he:es.toList[i]? with
  | none=>rw [he] at h2; cases h2
  | some e=>rw [he] at h2; simp at h2; exact⟨e,rfl,h2.1,h2.2⟩
section
variable [DecidableEq κ] {t k e:Nat} {z:α} (T:MapT P t k e venc z) (KO:q9s P k kenc)
include T KO
theorem map_look {x:κ}(h:Sat H (mapA kenc venc r m*F)) :
  (∀v,q08 x m=some v→q0b P (Instr.lookup t (.map (some r)) (kenc x) true) H (.tuple #[venc v,.bool true])∧q0b P (Instr.lookup t (.map (some r)) (kenc x) false) H (venc v))∧
  (q08 x m=none→q0b P (Instr.lookup t (.map (some r)) (kenc x) true) H (.tuple #[venc z,.bool false])∧q0b P (Instr.lookup t (.map (some r)) (kenc x) false) H (venc z)):=by
 obtain⟨hn,es,clock,⟨ml,hp,hes⟩,_,_,h5⟩:=q2u h;have hb:=h5.get;obtain⟨hk,hv⟩:=qlc hes;have hnl:(q00 ml).Nodup:=(hp.map Prod.fst).nodup_iff.2 hn;obtain⟨i,hi,hz⟩:=T.info
 constructor
 ·intro v hlook;rw [← q47 hnl hp] at hlook;obtain⟨j,hj,hj2⟩:=getElem?_of_mlook hlook;obtain⟨e',he,_,hev⟩:=hv j x v hj
  constructor <;> intro w hw <;> subst hw <;>
   simp [Instr.lookup,run_underlying T.und,Go.MapKept.run_getObj_map hb,KO.chk,KO.fnd x (q00 ml) es.toList w j e' hk (by simp [q00,hj]) hj2 he,hev]
 ·intro hlook;rw [← q47 hnl hp,q0h] at hlook
  constructor <;> intro w hw <;> subst hw <;>
   simp [Instr.lookup,run_underlying T.und,Go.MapKept.run_getObj_map hb,KO.chk,KO.non x (q00 ml) es.toList w hk hlook,zeroValue,typeInfo,hi,hz]
omit T KO [DecidableEq κ] in
theorem q2r (w:World)(r:Nat)(o:Obj):Rest w { w with heap:=w.heap.setIfInBounds r o }:=⟨rfl,rfl,rfl⟩
omit T KO [DecidableEq κ] in
theorem q50 {H:Heap}{o o':Obj}(h:Sat H (pt r o*F)):Sat (H.setIfInBounds r o') (pt r o'*F):=by
 refine h.upd ?_ fun i hi=>?_
 ·rw [Array.getElem?_setIfInBounds,if_pos rfl,if_pos h.lt]
 ·rw [Array.getElem?_setIfInBounds,if_neg (fun e=>hi e.symm)]
def mapC (kenc:κ→Value)(venc:α→Value)(m:List (κ × α))(es:Array MapEntry)(clock:Nat):Prop:=
 (q00 m).Nodup∧(∃ml:List (κ × α),ml.Perm m∧es.toList.map (fun e:MapEntry=>(e.key,e.val))=ml.map fun p=>(kenc p.1,venc p.2))∧
  (es.toList.map (·.born)).Nodup∧∀e∈es.toList,e.born < clock
omit T KO [DecidableEq κ] in
theorem q7t {es:Array MapEntry}{clock:Nat}(hc:mapC kenc venc m es clock)(h:Sat H (pt r (.map es clock)*F)):Sat H (mapA kenc venc r m*F):=
 h.frame fun _ hp=>⟨hc.1,es,clock,hc.2.1,hc.2.2.1,hc.2.2.2,hp⟩
omit T KO in
theorem qnd {x:κ}{v:α}{ml:List (κ × α)}{es:Array MapEntry}{clock j:Nat}{u:α}{e':MapEntry}(hn:(q00 m).Nodup)(hp:ml.Perm m)(hes:es.toList.map (fun e:MapEntry=>(e.key,e.val))=ml.map fun p=>(kenc p.1,venc p.2))
  (hborn:(es.toList.map (·.born)).Nodup) (hclock:∀e∈es.toList,e.born < clock) (hj:ml[j]?=some (x,u)) (he:es.toList[j]?=some e') :
  mapC kenc venc (mset x v m) (es.modify j fun e=>{ e with key:=kenc x,val:=venc v }) clock:=by
 have hnl:(q00 ml).Nodup:=(hp.map Prod.fst).nodup_iff.2 hn;refine⟨q6a hn,⟨ml.set j (x,v),(qnc hnl hj).trans (z4v hp),?_⟩,?_,?_⟩
 ·apply List.ext_getElem?;intro i;have h2:=congrArg (fun l=>l[i]?) hes
  simp only [List.getElem?_map] at h2 ⊢;simp only [zay,List.getElem?_modify,List.getElem?_set]
  by_cases hij:j=i
  ·subst hij;have hlt:j < ml.length:=(List.getElem?_eq_some_iff.1 hj).1;simp [he,hlt]
  ·simp only [if_neg hij,Option.map_map,Function.comp_def] at h2 ⊢;simpa using h2
 ·have:((es.modify j fun e=>{ e with key:=kenc x,val:=venc v }).toList.map (·.born))=es.toList.map (·.born):=by
   apply List.ext_getElem?;intro i;simp only [List.getElem?_map,zay,List.getElem?_modify]
   cases es.toList[i]? with
   | none=>simp
   | some a=>simp; split <;> rfl
  rw [this]; exact hborn
 ·intro e2 he2;obtain⟨i,hi⟩:=List.getElem?_of_mem he2;simp only [zay,List.getElem?_modify] at hi
  cases h3:es.toList[i]? with
  | none=>simp [h3] at hi
  | some a=>
   have:=hclock a (z9i h3);rw [h3] at hi;simp at hi;subst hi
   split <;> exact this
omit T KO in
theorem qxg {x:κ}{v:α}{ml:List (κ × α)}{es:Array MapEntry}{clock:Nat}(hn:(q00 m).Nodup)(hp:ml.Perm m)(hes:es.toList.map (fun e:MapEntry=>(e.key,e.val))=ml.map fun p=>(kenc p.1,venc p.2))
  (hborn:(es.toList.map (·.born)).Nodup) (hclock:∀e∈es.toList,e.born < clock) (hlook:q08 x ml=none) :
  mapC kenc venc (mset x v m) (es.push { key:=kenc x,val:=venc v,born:=clock }) (clock+1):=by
 have hnl:(q00 ml).Nodup:=(hp.map Prod.fst).nodup_iff.2 hn;refine⟨q6a hn,⟨ml++[(x,v)],?_,?_⟩,?_,?_⟩
 ·unfold mset;rw [q0y (by rw [← q47 hnl hp]; exact hlook)];exact (List.perm_append_singleton _ _).trans (hp.cons _)
 ·simp [hes]
 ·simp only [Array.toList_push,z9k,z9n,List.map_nil];rw [List.nodup_append];refine⟨hborn,by simp,?_⟩;intro a ha b hb' hab;simp at hb';subst hb';subst hab;obtain⟨e2,h3,h4⟩:=z90.1 ha;have:=hclock e2 h3;omega
 ·intro e2 he2;simp at he2
  rcases he2 with h3|h3
  ·have:=hclock e2 (by simpa using h3); omega
  ·subst h3; simp
theorem qzt {x:κ}{v:α}{K:Unit→Heap→Prop}(h:Sat H (mapA kenc venc r m*F))(kk:∀H',Sat H' (mapA kenc venc r (mset x v m)*F)→K () H') :
  RunW P (Instr.mapUpdate t (.map (some r)) (kenc x) (venc v)) H K:=by
 obtain⟨hn,es,clock,⟨ml,hp,hes⟩,hborn,hclock,h5⟩:=q2u h;have hb:=h5.get;obtain⟨hk,hv⟩:=qlc hes;intro w hw;subst hw
 cases hlook:q08 x ml with
 | some u=>
  obtain⟨j,hj,hj2⟩:=getElem?_of_mlook hlook;obtain⟨e',he,hek,hev⟩:=hv j x u hj;refine⟨(),_,?_,q2r w r (.map (es.modify j fun e=>{ e with key:=kenc x,val:=venc v }) clock),kk _ (q7t (qnd hn hp hes hborn hclock hj he) (q50 h5))⟩
  have he2:es[j]?=some e':=by simpa using he
  simp [Instr.mapUpdate,run_underlying T.und,Go.MapKept.run_getObj_map hb,KO.chk,KO.fnd x (q00 ml) es.toList w j e' hk (by simp [q00,hj]) hj2 he,he2,hek,KO.stay,Go.MapKept.run_setObj_map _ hb]
 | none=>
  have hl2:x∉q00 ml:=q0h.1 hlook;refine⟨(),_,?_,q2r w r (.map (es.push { key:=kenc x,val:=venc v,born:=clock }) (clock+1)),kk _ (q7t (qxg hn hp hes hborn hclock hlook) (q50 h5))⟩;simp [Instr.mapUpdate,run_underlying T.und,Go.MapKept.run_getObj_map hb,KO.chk,KO.non x (q00 ml) es.toList w hk hl2,Go.MapKept.run_setObj_map _ hb]
theorem qzu {x:κ}{ty:Nat}{K:Value→Heap→Prop}(h:Sat H (mapA kenc venc r m*F))(kk:∀H',Sat H' (mapA kenc venc r (mdel x m)*F)→K (.tuple #[]) H') :
  RunW P (Builtin.delete_ #[t,k] ty #[.map (some r),kenc x]) H K:=by
 obtain⟨hn,es,clock,⟨ml,hp,hes⟩,hborn,hclock,h5⟩:=q2u h;have hb:=h5.get;obtain⟨hk,hv⟩:=qlc hes;have hnl:(q00 ml).Nodup:=(hp.map Prod.fst).nodup_iff.2 hn;intro w hw;subst hw
 cases hlook:q08 x ml with
 | some u=>
  obtain⟨j,hj,hj2⟩:=getElem?_of_mlook hlook;obtain⟨e',he,hek,hev⟩:=hv j x u hj;have hjlt:j < es.size:=by have:=(List.getElem?_eq_some_iff.1 he).1; simpa using this
  have hlist:(es.eraseIdxIfInBounds j).toList=es.toList.eraseIdx j:=by
   simp [Array.eraseIdxIfInBounds,hjlt,Array.toList_eraseIdx]
  refine⟨.tuple #[],_,?_,q2r w r (.map (es.eraseIdxIfInBounds j) clock),kk _ ((q50 h5).frame fun p hp'=>?_)⟩
  ·simp [Builtin.delete_,run_underlying T.und,Go.MapKept.run_getObj_map hb,KO.chk,KO.fnd x (q00 ml) es.toList w j e' hk (by simp [q00,hj]) hj2 he,Go.MapKept.run_setObj_map _ hb]
  ·refine⟨qax hn,_,_,⟨ml.eraseIdx j,?_,?_⟩,?_,?_,hp'⟩
   ·rw [q7a hnl hj]; exact qq2 hp
   ·rw [hlist];rw [q63,q63,hes]
   ·rw [hlist,q63];exact hborn.sublist (List.eraseIdx_sublist _ _)
   ·intro e2 he2;rw [hlist] at he2;exact hclock e2 (List.mem_of_mem_eraseIdx he2)
 | none=>
  have hl2:x∉q00 ml:=q0h.1 hlook;refine⟨.tuple #[],_,?_,q2r w r (.map es clock),kk _ ((q50 h5).frame fun p hp'=>?_)⟩
  ·simp [Builtin.delete_,run_underlying T.und,Go.MapKept.run_getObj_map hb,KO.chk,KO.non x (q00 ml) es.toList w hk hl2,Go.MapKept.run_setObj_map _ hb]
  ·refine⟨qax hn,es,clock,⟨ml,?_,hes⟩,hborn,hclock,hp'⟩;rw [q0y (by rw [← q47 hnl hp]; exact hlook)]; exact hp
omit KO [DecidableEq κ] in
theorem z4w {ty:Nat}{K:Value→Heap→Prop}(h:Sat H (mapA kenc venc r m*F))(kk:∀H',Sat H' (mapA kenc venc r []*F)→K (.tuple #[]) H') :
  RunW P (Builtin.clear_ #[t] ty #[.map (some r)]) H K:=by
 obtain⟨hn,es,clock,⟨ml,hp,hes⟩,hborn,hclock,h5⟩:=q2u h;have hb:=h5.get;intro w hw;subst hw;refine⟨.tuple #[],_,?_,q2r w r (.map #[] clock),kk _ ((q50 h5).frame fun p hp'=>?_)⟩
 ·simp [Builtin.clear_,run_underlying T.und,Go.MapKept.run_getObj_map hb,Go.MapKept.run_setObj_map _ hb]
 ·exact⟨by simp,#[],clock,⟨[],.refl _,rfl⟩,by simp,by simp,hp'⟩
omit KO [DecidableEq κ] in
theorem map_len {ty:Nat}(h:Sat H (mapA kenc venc r m*F)):q0b P (Builtin.len_ #[t] ty #[.map (some r)]) H (.int .i64 m.length):=by
 obtain⟨hn,es,clock,⟨ml,hp,hes⟩,hborn,hclock,h5⟩:=q2u h;have hb:=h5.get;intro w hw;subst hw;have hlen:es.size=m.length:=by
  have:=congrArg List.length hes;simp at this;rw [this,hp.length_eq]
 simp [Builtin.len_,run_underlying T.und,Go.MapKept.run_getObj_map hb,hlen,goInt]
end
end
section
variable {κ α:Type} {kenc:κ→Value} {venc:α→Value} {r:Nat} {m m':List (κ × α)} {H:Heap} {L:List Assn} {P:Program}
theorem SatL.mp_new (h:SatL H (pt r (.map #[] 0)::L))(kenc:κ→Value)(venc:α→Value):SatL H (mapA kenc venc r []::L):=mapA_new h
variable [DecidableEq κ] {t k e:Nat} {z:α} (T:MapT P t k e venc z) (KO:q9s P k kenc)
include T KO
theorem SatL.mp_look {x:κ}(h:SatL H L)(i:Nat)(hA:nth i L=mapA kenc venc r m) :
  (∀v,q08 x m=some v→q0b P (Instr.lookup t (.map (some r)) (kenc x) true) H (.tuple #[venc v,.bool true])∧q0b P (Instr.lookup t (.map (some r)) (kenc x) false) H (venc v))∧
  (q08 x m=none→q0b P (Instr.lookup t (.map (some r)) (kenc x) true) H (.tuple #[venc z,.bool false])∧q0b P (Instr.lookup t (.map (some r)) (kenc x) false) H (venc z)):=by
 have h2:=h.foc i;rw [hA] at h2;exact map_look T KO h2
theorem SatL.mp_update {x:κ}{v:α}{K:Unit→Heap→Prop}(h:SatL H L)(i:Nat)(hA:nth i L=mapA kenc venc r m)(kk:∀H',SatL H' (put i (mapA kenc venc r (mset x v m)) L)→K () H') :
  RunW P (Instr.mapUpdate t (.map (some r)) (kenc x) (venc v)) H K:=by
 have h2:=h.foc i;rw [hA] at h2;exact qzt T KO h2 fun H' h3=>kk H' (SatL.back h3)
theorem SatL.mp_delete {x:κ}{ty:Nat}{K:Value→Heap→Prop}(h:SatL H L)(i:Nat)(hA:nth i L=mapA kenc venc r m)(kk:∀H',SatL H' (put i (mapA kenc venc r (mdel x m)) L)→K (.tuple #[]) H') :
  RunW P (Builtin.delete_ #[t,k] ty #[.map (some r),kenc x]) H K:=by
 have h2:=h.foc i;rw [hA] at h2;exact qzu T KO h2 fun H' h3=>kk H' (SatL.back h3)
omit KO [DecidableEq κ] in
theorem SatL.mp_clear {ty:Nat}{K:Value→Heap→Prop}(h:SatL H L)(i:Nat)(hA:nth i L=mapA kenc venc r m)(kk:∀H',SatL H' (put i (mapA kenc venc r []) L)→K (.tuple #[]) H') :
  RunW P (Builtin.clear_ #[t] ty #[.map (some r)]) H K:=by
 have h2:=h.foc i;rw [hA] at h2;exact z4w T h2 fun H' h3=>kk H' (SatL.back h3)
omit KO [DecidableEq κ] in
theorem SatL.mp_len {ty:Nat}(h:SatL H L)(i:Nat)(hA:nth i L=mapA kenc venc r m):q0b P (Builtin.len_ #[t] ty #[.map (some r)]) H (.int .i64 m.length):=by
 have h2:=h.foc i;rw [hA] at h2;exact map_len T h2
end
open Go Go.Maps Go.RowKit
def q64 (l:List Int):List Int:=l.mergeSort fun x y=>decide (x≤y)
theorem qeq {l l':List Int}(h:l.Perm l'):q64 l=q64 l':=mergeSort_of_perm_i h
theorem q4i (l:List Int):(q64 l).Perm l:=List.mergeSort_perm l _
theorem qq3 (l:List Int):(q64 l).Pairwise (·≤·):=by
 have:=List.pairwise_mergeSort (le:=fun x y:Int=>decide (x≤y)) (fun a b c h1 h2=>by simp only [z8u] at *; omega) (fun a b=>by simp only [z97,z8u]; omega) l
 exact this.imp (by simp)
theorem q9t {l:List Int}(h:l.Pairwise (·≤·)):q64 l=l:=by
 refine List.Perm.eq_of_pairwise (le:=(·≤·)) (fun a b _ _ h1 h2=>by omega) (qq3 l) h (q4i l)
theorem qq4 (l:List Int):(q64 l).length=l.length:=(q4i l).length_eq
def wf64 (x:Int):Prop:=-9223372036854775808≤x∧x≤9223372036854775807
theorem wf64_lit {x:Int}(h:wf64 x):(Lit.int .i64 x).wf=true:=by
 unfold wf64 at h;simp [Lit.wf,IntKind.min,IntKind.max,IntKind.signed,IntKind.bits];omega
theorem q4j {w w':World}(h:Below w.heap.size w w'):Grow w.heap w'.heap:=fun b hb=>h.block b hb
theorem q65 {n:Nat}{w w':World}(h:Below n w w'):Rest w w':=⟨h.os,h.tape,h.output⟩
abbrev qq5 (H:Type):Value→Option (DataW H × List MemPlace):=fun _=>some (.lit (.bool true),[])
theorem qer {α:Type}{venc:α→Value}{P:Program}{k:TypeId}{w:World}{r:Nat}{m:List (Int × α)}{F:Assn}(hk:P.underlying k=some (.int .i64))
  (h:Sat w.heap (mapA (Value.int .i64) venc r m*F)) (hr:∀x∈q00 m,wf64 x) (hsz:m.length≤maxLen) :
  ∃D0:DataW Unit,w.ownsMap P k (qq5 Unit) r m.length D0∧(intKeys D0).Perm (q00 m)∧Maps.size D0=m.length:=by
 obtain⟨hn,es,clock,⟨ml,hp,hes⟩,hborn,hclock,h5⟩:=q2u h;have hlen:es.size=m.length:=by
  have:=congrArg List.length hes;simp at this;rw [this,hp.length_eq]
 have hrd:∀x∈es.toList,∃a:Int,x.key=Value.int .i64 a∧Go.WideElems.rd P k (qq5 Unit) x=some (.int .i64 a,.lit (.bool true)):=by
  intro x hx;have:(x.key,x.val)∈es.toList.map (fun e:MapEntry=>(e.key,e.val)):=z90.2 ⟨x,hx,rfl⟩
  rw [hes] at this;obtain⟨p,hp1,hp2⟩:=z90.1 this;have hk2:p.1∈q00 m:=z90.2 ⟨p,hp.mem_iff.1 hp1,rfl⟩;have hw:=wf64_lit (hr _ hk2);simp only [Prod.mk.injEq] at hp2;refine⟨p.1,hp2.1.symm,?_⟩;unfold Go.WideElems.rd;rw [← hp2.1];simp [keyOf,hk,mapKey,hw,qq5]
 have hsort:=Go.WideShapes.sorted_perm (es.toList.map (Go.WideElems.rg P k (qq5 Unit)));have hrg:es.toList.map (fun x=>Go.intOf (Go.WideElems.rg P k (qq5 Unit) x).1)=q00 ml:=by
  have h2:=(qlc hes).1;have h3:es.toList.map (fun x=>Go.intOf (Go.WideElems.rg P k (qq5 Unit) x).1)=(es.toList.map (·.key)).map fun v=>match v with|.int _ a=>a|_=>0:=by
   rw [z9r];apply zaq;intro x hx;obtain⟨a,h4,h5⟩:=hrd x hx;simp [Go.WideElems.rg,h5,h4,Go.intOf]
  rw [h3,h2,z9r];simp [Function.comp_def]
 refine⟨_,⟨es,clock,h5.get,⟨by omega,⟨hclock,hborn,?_⟩,fun x hx=>?_⟩,by omega,rfl⟩,?_,?_⟩
 ·have h2:=(qlc hes).1;rw [h2];have hnl:(q00 ml).Nodup:=(hp.map Prod.fst).nodup_iff.2 hn;exact zb9.2 (hnl.imp fun hne e=>hne (by cases e; rfl))
 ·obtain⟨a,_,h2⟩:=hrd x hx; exact⟨_,h2⟩
 ·show ((es.toList.map (Go.WideElems.rg P k (qq5 Unit))).foldr DataW.insert [] |>.map fun p=>Go.intOf p.1).Perm _
  refine (hsort.map _).trans ?_;rw [z9r];simp only [Function.comp_def];rw [hrg];exact hp.map Prod.fst
 ·show ((es.toList.map (Go.WideElems.rg P k (qq5 Unit))).foldr DataW.insert []).length=_;rw [hsort.length_eq]; simpa using hlen
theorem SatL.of_row {w w':World}{L:List Assn}(h:SatL w.heap L)(hb:Below w.heap.size w w'){e:TypeId}{v:Value}{n:Nat}{xs:List Value}(ho:w'.ownsRow w.heap.size e 1 v n xs) :
  ∃a c,v=.slice a n c∧SatL w'.heap (slA e 1 a n c xs::L):=by
 obtain⟨hl,h2⟩:=ho;have g:=q4j hb
 rcases h2 with ⟨rfl,rfl⟩|⟨g1,cap,cur,rfl,hg,hc,hn,hm,hs,ht⟩
 ·have:xs=[]:=zag (by simpa using hl);subst this;exact⟨none,0,rfl,(h.grow g).sl_nil e 1⟩
 ·refine⟨_,_,rfl,?_⟩;have h3:SatL w'.heap (cellsA g1 cur.toList e::L):=h.new g hg (by simpa using hc);refine h3.mono fun p hp=>⟨hl,.inr ⟨g1,[],cur.toList.drop n,e,(0,0),rfl,hn,?_,fun _ i _ _ hh=>by simp at hh,?_⟩⟩
  ·simp only [z9m,za1,zah]; omega
  ·have:([]++xs++cur.toList.drop n)=cur.toList:=by
    rw [← ht]; simp
   rw [this]; exact hp
open Go
section
variable {α:Type}
abbrev RowL (α:Type):=List (Int × α)
def q3w (l:RowL α):Prop:=l.Pairwise fun a b=>a.1 < b.1
def ins (n:Int)(v:α):RowL α→RowL α
 | []=>[(n,v)]
 | (a,b)::r=>if n < a then (n,v)::(a,b)::r else (a,b)::ins n v r
def q20 (next most n:Int)(v:α)(s:RowL α × Int):RowL α × Int:=
 if n < next∨(q08 n s.1).isSome=true then s
 else if next+most≤n then (s.1,s.2+1)
 else (ins n v s.1,s.2)
def q2i (next most:Int):Int→List α→RowL α × Int→RowL α × Int
 | _,[],s=>s
 | n,v::vs,s=>q2i next most (n+1) vs (q20 next most n v s)
def pop:Int→RowL α→List α × Int × RowL α
 | next,[]=>([],next,[])
 | next,(n,v)::r=>if n=next then (v::(pop (next+1) r).1,(pop (next+1) r).2) else ([],next,(n,v)::r)
structure HS (α:Type) where
 next:Int
 most:Int
 rows:RowL α
def HS.offer (s:HS α)(first:Int)(items:List α):HS α × List α × Int:=
 if first < 0∨2199023255552 < first then (s,[],(items.length:Int))
 else ({ s with next:=(pop s.next (q2i s.next s.most first items (s.rows,0)).1).2.1,rows:=(pop s.next (q2i s.next s.most first items (s.rows,0)).1).2.2 },
  (pop s.next (q2i s.next s.most first items (s.rows,0)).1).1,(q2i s.next s.most first items (s.rows,0)).2)
def HS.drain (s:HS α):HS α:={ s with rows:=[] }
structure q43 (lo next most:Int)(l:RowL α):Prop where
 rising:q3w l
 inb:∀p∈l,lo≤p.1∧p.1 < next+most
structure HS.Ok (s:HS α):Prop where
 next0:0≤s.next
 most1:1≤s.most
 most2:s.most≤256
 rows:q43 (s.next+1) s.next s.most s.rows
theorem qfx {l:RowL α}(h:q3w l):(q00 l).Nodup:=zb9.2 (h.imp fun hab e=>by omega)
theorem qi6 {n:Int}{v:α}{p:Int × α}:∀{l:RowL α},p∈ins n v l↔p=(n,v)∨p∈l
 | []=>by simp [ins]
 | (a,b)::r=>by
  simp only [ins]
  split
  ·simp
  ·simp only [z96,qi6 (l:=r)]
   constructor
   ·rintro (h|h|h) <;> simp [h]
   ·rintro (h|h|h) <;> simp [h]
theorem qne (n:Int)(v:α):∀(l:RowL α),(ins n v l).Perm ((n,v)::l)
 | []=>.refl _
 | (a,b)::r=>by
  simp only [ins]
  split
  ·exact .refl _
  ·exact ((qne n v r).cons _).trans (.swap _ _ _)
theorem qld {n:Int}{v:α}:∀{l:RowL α},q3w l→q08 n l=none→q3w (ins n v l)
 | [],_,_=>by simp [ins,q3w]
 | (a,b)::r,h,hn=>by
  obtain⟨h1,h2⟩:=zai.1 h;simp only [q08] at hn
  by_cases e:n=a
  ·rw [if_pos e] at hn; cases hn
  ·rw [if_neg e] at hn;simp only [ins]
   split
   ·rename_i hlt;refine zai.2 ⟨fun q hq=>?_,h⟩
    rcases z96.1 hq with rfl|hq
    ·exact hlt
    ·have:=h1 q hq; simp only at this ⊢; omega
   ·rename_i hlt;refine zai.2 ⟨fun q hq=>?_,qld h2 hn⟩
    rcases qi6.1 hq with rfl|hq
    ·simp only; omega
    ·exact h1 q hq
theorem qzv (n:Int)(v:α)(l:RowL α):(ins n v l).length=l.length+1:=by simp [(qne n v l).length_eq]
theorem qd6:∀{l:RowL α} {lo hi:Int},q3w l→(∀p∈l,lo≤p.1∧p.1 < hi)→(l.length:Int)≤max 0 (hi - lo)
 | [],lo,hi,_,_=>by simp; omega
 | (a,b)::r,lo,hi,h,hb=>by
  obtain⟨h1,h2⟩:=zai.1 h;have h3:=hb (a,b) (by simp);have h4:=qd6 (lo:=a+1) (hi:=hi) h2 fun p hp=>⟨by have:=h1 p hp; simp only at this; omega,(hb p (by simp [hp])).2⟩
  simp only [z8y] at *;omega
theorem q43.length {lo next most:Int}{l:RowL α}(h:q43 lo next most l):(l.length:Int)≤max 0 (next+most - lo):=qd6 h.rising h.inb
theorem qq6 {next most n:Int}{v:α}{s:RowL α × Int}(h:q43 next next most s.1):q43 next next most (q20 next most n v s).1:=by
 unfold q20
 split
 ·exact h
 ·rename_i hc;simp only [not_or,Int.not_lt] at hc
  split
  ·exact h
  ·refine⟨qld h.rising ?_,fun p hp=>?_⟩
   ·cases hm:q08 n s.1 with
    | none=>rfl
    | some u=>simp [hm] at hc
   ·rcases qi6.1 hp with rfl|hp
    ·simp only; omega
    ·exact h.inb p hp
theorem qzw {next most n:Int}{v:α}{s:RowL α × Int}(h:0≤s.2):s.2≤(q20 next most n v s).2∧(q20 next most n v s).2≤s.2+1:=by
 unfold q20
 split
 ·omega
 ·split <;> simp only <;> omega
theorem qi7 {next most:Int}:∀{vs:List α} {n:Int} {s:RowL α × Int},q43 next next most s.1→q43 next next most (q2i next most n vs s).1
 | [],_,_,h=>h
 | v::vs,n,s,h=>qi7 (vs:=vs) (qq6 h)
theorem q43.weaken {lo lo' next next' most:Int}{l:RowL α}(h:q43 lo next most l)(h1:lo'≤lo)(h2:next≤next'):q43 lo' next' most l:=
 ⟨h.rising,fun p hp=>by have:=h.inb p hp; omega⟩
theorem qzx {next:Int}:∀{l:RowL α},q3w l→(∀p∈l,next≤p.1)→q08 next l=match l with|[]=>none|(n,v)::_=>if n=next then some v else none
 | [],_,_=>rfl
 | (n,v)::r,h,hb=>by
  simp only [q08]
  by_cases e:n=next
  ·simp [e]
  ·rw [if_neg (fun e2=>e e2.symm),if_neg e]
   obtain⟨h1,h2⟩:=zai.1 h;rw [q0h];intro hm;obtain⟨p,hp,e3⟩:=z90.1 hm;have:=h1 p hp;have:=hb (n,v) (by simp);simp only at *;omega
theorem qgz:∀{l:RowL α} {next:Int},q3w l→(∀p∈l,next≤p.1)→
  next≤(pop next l).2.1∧(pop next l).2.1=next+(pop next l).1.length∧(∃k,(pop next l).2.2=l.drop k∧(pop next l).1.length=k∧k≤l.length)∧(∀p∈(pop next l).2.2,(pop next l).2.1+1≤p.1)
 | [],next,_,_=>by simp [pop]
 | (n,v)::r,next,h,hb=>by
  obtain⟨h1,h2⟩:=zai.1 h;simp only [pop]
  by_cases e:n=next
  ·rw [if_pos e];subst e;obtain⟨a1,a2,⟨k,a3,a4,a5⟩,a6⟩:=qgz (l:=r) (next:=n+1) h2 fun p hp=>by have:=h1 p hp; simp only at this; omega
   refine⟨by simp only; omega,by simp only [z8y]; omega,⟨k+1,by simpa using a3,by simpa using a4,by simpa using a5⟩,a6⟩
  ·rw [if_neg e];refine⟨by simp,by simp,⟨0,by simp⟩,fun p hp=>?_⟩
   have h3:=hb (n,v) (by simp);simp only at h3
   rcases z96.1 hp with rfl|hp
   ·simp only; omega
   ·have:=h1 p hp; simp only at this ⊢; omega
theorem z4x {n:Int}{v:α}{r:RowL α}(h:q3w ((n,v)::r)):mdel n ((n,v)::r)=r:=by
 have h2:q08 n r=none:=q0h.2 fun hm=>by
  obtain⟨p,hp,e3⟩:=z90.1 hm;have:=(zai.1 h).1 p hp;simp only at this;omega
 have h3:mdel n ((n,v)::r)=mdel n r:=by simp [mdel,z9x]
 rw [h3,q0y h2]
theorem HS.offer_ok {s:HS α}(h:s.Ok)(first:Int)(items:List α):(s.offer first items).1.Ok∧s.next≤(s.offer first items).1.next∧(s.offer first items).1.next≤s.next+s.most∧(s.offer first items).1.most=s.most:=by
 unfold HS.offer
 split
 ·exact⟨h,by simp,by have:=h.most1; simp only; omega,rfl⟩
 ·have h1:=qi7 (vs:=items) (n:=first) (s:=(s.rows,0)) (h.rows.weaken (lo':=s.next) (by omega) (z9g _));obtain⟨a1,a2,⟨k,a3,a4,a5⟩,a6⟩:=qgz h1.rising fun p hp=>(h1.inb p hp).1
  have hlen:=h1.length;have:=h.most1;have hk:((pop s.next (q2i s.next s.most first items (s.rows,0)).1).1.length:Int)≤s.most:=by omega
  refine⟨⟨?_,h.most1,h.most2,⟨?_,fun p hp=>?_⟩⟩,a1,by simp only; omega,rfl⟩
  ·have:=h.next0; simp only; omega
  ·simp only [a3]; exact h1.rising.sublist (List.drop_sublist _ _)
  ·refine⟨a6 p hp,?_⟩;simp only [a3] at hp;have:=(h1.inb p (zaz hp)).2;simp only; omega
theorem qzy {l:RowL α}(h:q3w l):q64 (q00 l)=q00 l:=q9t (zb9.2 (h.imp fun hab=>by omega))
end
open Go
section
variable {α:Type} {enc:α→List Value} {sz:Nat} {xs ys:List α} {H:Heap} {a:Option Addr}
def flat (enc:α→List Value)(xs:List α):List Value:=xs.flatMap enc
@[simp] theorem flat_nil:flat enc ([]:List α)=[]:=rfl
theorem q5p (x:α):flat enc (x::xs)=enc x++flat enc xs:=rfl
theorem q0k:flat enc (xs++ys)=flat enc xs++flat enc ys:=by simp [flat]
theorem q7b (x:α):flat enc [x]=enc x:=by simp [flat]
theorem q0l (he:∀x,(enc x).length=sz):∀xs:List α,(flat enc xs).length=xs.length*sz
 | []=>by simp
 | x::r=>by rw [q5p,z8t,he,q0l he r,z8y,z9p]; omega
theorem qi8 (he:∀x,(enc x).length=sz):∀(k:Nat) (xs:List α),(flat enc xs).drop (k*sz)=flat enc (xs.drop k)
 | 0,xs=>by simp
 | k+1,[]=>by simp
 | k+1,x::r=>by
  rw [q5p,zax,← qi8 he k r,z9p,Nat.one_mul,Nat.add_comm];rw [← he x,List.drop_append];simp
theorem q93 {β:Type}:∀{l r:List β} {j:Nat},j < l.length→lget (l++r) j=lget l j:=by
 intro l r j h; rw [q13,q13,List.getElem?_append_left h]
theorem q51 {β:Type}{l r:List β}(j:Nat):lget (l++r) (l.length+j)=lget r j:=by
 rw [q13,q13,List.getElem?_append_right (by omega),zb8]
theorem qd7 (he:∀x,(enc x).length=sz):∀{xs:List α} {k:Nat} (hk:k < xs.length) (f:Nat),f < sz→lget (flat enc xs) (k*sz+f)=lget (enc xs[k]) f
 | x::r,0,_,f,hf=>by rw [Nat.zero_mul,z9e,q5p,q93 (by rw [he]; exact hf)]; rfl
 | x::r,k+1,hk,f,hf=>by
  rw [q5p,show (k+1)*sz+f=(enc x).length+(k*sz+f) by rw [he,z9p]; omega,q51,qd7 he (by simpa using hk) f hf]; rfl
theorem rdS.el (h:rdS H a (flat enc xs))(he:∀x,(enc x).length=sz){k:Nat}(hk:k < xs.length)(f:Nat){v:Value}(hv:lget (enc xs[k]) f=some v) :
  q02 H (adrB a) (adrO a+k*sz+f)=some v:=by
 have hf:f < sz:=by rw [← he xs[k]]; exact q9o hv
 have:=(h (k*sz+f) v (by rw [qd7 he hk f hf]; exact hv)).2
 rwa [← za0] at this
theorem rdS.el0 (h:rdS H a (flat enc xs))(he:∀x,(enc x).length=sz){k:Nat}(hk:k < xs.length){v:Value}(hv:lget (enc xs[k]) 0=some v) :
  q02 H (adrB a) (adrO a+k*sz)=some v:=h.el he hk 0 hv
theorem rdS.some (h:rdS H a (flat enc xs))(he:∀x,(enc x).length=sz)(hs:0 < sz){k:Nat}(hk:k < xs.length):a=some ⟨adrB a,adrO a,none⟩:=by
 have h0:0 < (flat enc xs).length:=by rw [q0l he]; exact Nat.mul_pos (by omega) hs
 exact (h 0 _ (qd5 h0)).1
theorem q6l:∀{vs:List Value} {b o:Nat},(∀f v,lget vs f=some v→q02 H b (o+f)=some v)→q03 H b o vs
 | [],_,_,_=>trivial
 | [v],b,o,h=>h 0 v rfl
 | v::u::r,b,o,h=>⟨h 0 v rfl,q6l fun f w hf=>by have:=h (f+1) w hf; rwa [show o+(f+1)=o+1+f by omega] at this⟩
theorem rdS.els (h:rdS H a (flat enc xs))(he:∀x,(enc x).length=sz){k:Nat}(hk:k < xs.length):q03 H (adrB a) (adrO a+k*sz) (enc xs[k]):=
 q6l fun f v hf=>h.el he hk f hf
theorem q7u:∀(vs l r:List Value) (o:Nat),o+vs.length≤l.length→q1l (l++r) o vs=q1l l o vs++r
 | [],_,_,_,_=>rfl
 | v::vs,l,r,o,h=>by
  simp only [z8y] at h;simp only [q1l];rw [List.set_append_left _ _ (by omega),q7u vs _ r (o+1) (by simp; omega)]
theorem q29:∀(vs l r:List Value) (o:Nat),q1l (l++r) (l.length+o) vs=l++q1l r o vs
 | [],_,_,_=>rfl
 | v::vs,l,r,o=>by
  simp only [q1l];rw [List.set_append_right _ _ (by omega),zb8,za0,q29 vs l _ (o+1)]
theorem qi9:∀(vs l:List Value),vs.length=l.length→q1l l 0 vs=vs:=by
 intro vs l h;have:=q69 vs [] l (by omega);simp only [za7,z9j] at this;rw [this,zbh (by omega),z9o]
theorem qq7 (he:∀x,(enc x).length=sz)(y:α)(vs:List Value)(f:Nat):∀{xs:List α} {k:Nat} (hk:k < xs.length),f+vs.length≤sz→q1l (enc xs[k]) f vs=enc y→q1l (flat enc xs) (k*sz+f) vs=flat enc (xs.set k y)
 | x::r,0,_,hl,h=>by
  rw [Nat.zero_mul,z9e,q5p,zb2,q5p,q7u _ _ _ _ (by rw [he]; omega)];exact congrArg (·++flat enc r) h
 | x::r,k+1,hk,hl,h=>by
  rw [zbi,q5p,q5p,← qq7 he y vs f (xs:=r) (k:=k) (by simpa using hk) hl h,show (k+1)*sz+f=(enc x).length+(k*sz+f) by rw [he,z9p]; omega,q29]
theorem q7c:∀{l r:List Value},q09 l=true→q09 r=true→q09 (l++r)=true
 | [],r,_,h=>h
 | v::l,r,h,h2=>by
  have:=q6h h;have ih:=q7c this.2 h2
  cases v <;> simp [q09] at h ⊢ <;> exact ih
theorem q48 (hp:∀x,q09 (enc x)=true):∀xs:List α,q09 (flat enc xs)=true
 | []=>rfl
 | x::r=>q7c (hp x) (q48 hp r)
end
section
variable {H:Heap} {L:List Assn} {e sz n c:Nat} {a:Option Addr} {cs:List Value}
theorem SatL.sl_drop (h:SatL H L)(i:Nat)(hA:nth i L=slA e sz a n c cs)(k:Nat)(hk:k≤n):SatL H (put i (slA e sz (slB a k c sz) (n - k) (c - k) (cs.drop (k*sz))) L):=by
 have h2:=h.foc i;rw [hA] at h2;refine SatL.back (i:=i) (L:=L) (h2.frame fun p hp=>?_)
 obtain⟨hl,hp⟩:=hp;refine⟨by rw [z9m,hl,Nat.sub_mul],?_⟩
 rcases hp with ⟨h3,h4,h5,h6⟩|⟨b,pre,post,e',fr,h3,h4,h5,hf,h6⟩
 ·left; subst h3; subst h4; subst h5;exact⟨by simp [slB],by omega,by omega,h6⟩
 ·right;subst h3;unfold slB
  by_cases e:c=k
  ·rw [if_pos e];have:n=k:=by omega
   subst this;have hd:cs.drop (n*sz)=[]:=by rw [← hl]; simp
   refine⟨b,pre,cs++post,e',fr,rfl,by omega,by rw [show c - n - (n - n)=0 by omega]; omega,fun _ i h7 h8=>by rw [show c - n=0 by omega] at h8; omega,?_⟩
   rw [hd];simpa using h6
  ·rw [if_neg e];refine⟨b,pre++cs.take (k*sz),post,e',fr,?_,by omega,?_,fun _ i h7 h8=>?_,?_⟩
   ·have:k*sz≤n*sz:=z9y _ hk;simp only [z9t,q3j,z8t,z9d];rw [zar (by omega)]
   ·rw [show c - k - (n - k)=c - n by omega]; exact h5
   ·have h9:k*sz≤n*sz:=z9y _ hk;have h10:(c - k)*sz+k*sz=c*sz:=by rw [← z9p]; congr 1; omega
    rw [z8t,z9d,zar (by omega)] at h7 h8;exact hf rfl i (by omega) (by omega)
   ·have:pre++cs.take (k*sz)++cs.drop (k*sz)++post=pre++cs++post:=by
     rw [z93,z93,← z93 (cs.take _),zba,z93]
    rw [this]; exact h6
theorem SatL.sl_take (h:SatL H L)(i:Nat)(hA:nth i L=slA e sz a n c cs)(k:Nat)(hk:k≤n):SatL H (put i (slA e sz a k c (cs.take (k*sz))) L):=by
 have h2:=h.foc i;rw [hA] at h2;refine SatL.back (i:=i) (L:=L) (h2.frame fun p hp=>?_)
 obtain⟨hl,hp⟩:=hp;have hkn:k*sz≤n*sz:=z9y _ hk;refine⟨by rw [z9d,hl]; omega,?_⟩
 rcases hp with ⟨h3,h4,h5,h6⟩|⟨b,pre,post,e',fr,h3,h4,h5,hf,h6⟩
 ·left; exact⟨h3,by omega,h5,h6⟩
 ·right;refine⟨b,pre,cs.drop (k*sz)++post,e',fr,h3,by omega,?_,hf,?_⟩
  ·have:(c - k)*sz=(c - n)*sz+(n - k)*sz:=by rw [← z9p]; congr 1; omega
   rw [z8t,z9m,hl,this,← Nat.sub_mul]; omega
  ·have:pre++cs.take (k*sz)++(cs.drop (k*sz)++post)=pre++cs++post:=by
    rw [z93,← z93 (cs.take _),zba,← z93]
   rw [this]; exact h6
end
open Go
def qnf:Value→Value→Option Bool
 | .int k a,.int k' b=>if k=k' then some (a == b) else none
 | .bool a,.bool b=>some (a == b)
 | .string a,.string b=>some (a == b)
 | _,_=>none
def q1f:Option TypeDesc→Value→Bool
 | some (.int _),.int _ _=>true
 | some .bool,.bool _=>true
 | some .string,.string _=>true
 | _,_=>false
def q9u (P:Program)(xs ys:List Value):List Field→Option Bool
 | []=>some true
 | f::fs=>if f.name= "_" then none else match lget xs f.offset,lget ys f.offset with
  | some a,some b=>if q1f (P.underlying f.type) a && q1f (P.underlying f.type) b then
    match qnf a b,q9u P xs ys fs with
    | some r,some s=>some (r && s)
    | _,_=>none
   else none
  | _,_=>none
def q6m (P:Program)(t:TypeId)(xs ys:List Value):Option Bool:=
 match P.underlying t with
 | some (.struct fs)=>if P.stoodInHeld t=false∧P.eqGuardType P.depth t=false then q9u P xs ys fs.toList else none
 | _=>none
theorem qia {P:Program}{w:World}{t:TypeId}{a b:Value}{r:Bool}(ha:q1f (P.underlying t) a=true)(hb:q1f (P.underlying t) b=true)(h:qnf a b=some r)(d:Nat) :
  (Op.equalIn (d+1) t a b).run P w=.ok r w:=by
 cases hu:P.underlying t with
 | none=>rw [hu] at ha; simp [q1f] at ha
 | some k=>
  rw [hu] at ha hb
  cases k <;> cases a <;> simp [q1f] at ha <;> cases b <;> simp [q1f] at hb <;> simp [qnf] at h
  ·subst h; simp [Op.equalIn,run_underlying hu]
  ·obtain⟨rfl,rfl⟩:=h; simp [Op.equalIn,run_underlying hu]
  ·subst h; simp [Op.equalIn,run_underlying hu]
theorem q7v {P:Program}{w:World}{t:TypeId}{xs:List Value}{o:Nat}{a:Value}(ha:q1f (P.underlying t) a=true)(hx:lget xs o=some a):(part t ⟨xs⟩ o).run P w=.ok a w:=by
 rw [q13] at hx
 cases hu:P.underlying t with
 | none=>rw [hu] at ha; simp [q1f] at ha
 | some k=>
  rw [hu] at ha;have hx':(⟨xs⟩:Array Value)[o]?=some a:=by simpa using hx
  cases k <;> cases a <;> simp [q1f] at ha <;> simp [part,isAgg,run_underlying hu,hx']
theorem q9v {P:Program}{w:World}{xs ys:List Value}(d:Nat):∀{fs:List Field} {r:Bool},q9u P xs ys fs=some r→(Op.eqFields (d+1) ⟨xs⟩ ⟨ys⟩ fs).run P w=.ok r w
 | [],r,h=>by simp [q9u] at h; subst h; simp [Op.eqFields]
 | f::fs,r,h=>by
  simp only [q9u] at h
  split at h
  ·cases h
  ·rename_i hn
   split at h
   ·rename_i a b hx hy
    split at h
    ·rename_i hp;simp only [z8w] at hp
     split at h
     ·rename_i r1 s hr hs
      cases h
      simp only [Op.eqFields,ne_eq,hn,not_false_eq_true,if_true,Sem.run_bind,q7v hp.1 hx,q7v hp.2 hy,Result.andThen_ok,qia hp.1 hp.2 hr]
      cases r1
      ·simp
      ·simp [q9v d hs]
     ·cases h
    ·cases h
   ·cases h
theorem qay {P:Program}{t:TypeId}{xs ys:List Value}{r:Bool}(h:q6m P t xs ys=some r):q5v P .eql t (.agg ⟨xs⟩) (.agg ⟨ys⟩) r∧q5v P .neq t (.agg ⟨xs⟩) (.agg ⟨ys⟩) (!r):=by
 unfold q6m at h
 split at h
 ·rename_i fs hu
  split at h
  ·rename_i hg;have hf:P.fieldsOf t=fs:=by simp [Program.fieldsOf,hu]
   have hu':P.underlying t=some (.struct (P.fieldsOf t)):=by rw [hf]; exact hu
   have he:∀w,(Op.equalIn 10000 t (.agg ⟨xs⟩) (.agg ⟨ys⟩)).run P w=.ok r w:=by
    intro w;show (Op.equalIn (9998+1+1) t (.agg ⟨xs⟩) (.agg ⟨ys⟩)).run P w=.ok r w;generalize 9998=n;rw [run_equalIn_struct w (n+1) t ⟨xs⟩ ⟨ys⟩ hu' hg.1,hf];exact q9v n h
   constructor
   ·intro ox oy w;simp only [Sem.run_bind,run_eqGuard_agg w .eql t ox oy ⟨xs⟩ ⟨ys⟩ hg.2,Result.andThen_ok,run_eql_struct,he]
   ·intro ox oy w;simp only [Sem.run_bind,run_eqGuard_agg w .neq t ox oy ⟨xs⟩ ⟨ys⟩ hg.2,Result.andThen_ok,run_neq_struct,he]
  ·cases h
 ·cases h
open Go
theorem w64 {x:Int}(h1:-9223372036854775808≤x:=by omega)(h2:x≤9223372036854775807:=by omega):i64.wrap x=x:=IntWalk.i64_in x (by omega)
def qxh (P:Program)(e:TypeId):Option Value:=match P.info? e with|some i=>i.zero|none=>none
theorem qc1 {α:Type}{P:Program}{t k e:Nat}{venc:α→Value}{z:α}(h1:P.underlying t=some (.map k e))(h2:qxh P e=some (venc z)):MapT P t k e venc z:=by
 refine⟨h1,?_⟩;unfold qxh at h2
 split at h2
 ·rename_i i hi; exact⟨i,hi,h2⟩
 ·cases h2
theorem qq8 {α:Type}{enc:α→Value}:∀(xs:List α) (j:Nat),lget (xs.map enc) j=(lget xs j).map enc
 | [],_=>rfl
 | _::_,0=>rfl
 | _::r,j+1=>qq8 r j
theorem rdS.at {α:Type}{H:Heap}{a:Option Addr}{enc:α→Value}{xs:List α}(h:rdS H a (xs.map enc)){j:Nat}(hj:j < xs.length) :
  a=Option.some ⟨adrB a,adrO a,none⟩∧q02 H (adrB a) (adrO a+j)=Option.some (enc xs[j]):=h j _ (by rw [qq8,qd5 hj]; rfl)
theorem qle (k:IntKind):∀(l:List Int),q09 (l.map (Value.int k))=true
 | []=>rfl
 | a::r=>qle k r
section
variable {H:Heap} {L:List Assn}
theorem SatL.al {Q:Nat→Heap→Prop}{cs:List Value}{e:TypeId}(h:SatL H L)(k:∀b H',SatL H' (cellsA b cs e::L)→Q b H'):∀(b:Nat) (H':Heap),b=H.size→H'=H.push (.cells cs.toArray e)→Q b H':=by
 rintro b H' rfl rfl;exact k _ _ (h.push _)
theorem SatL.alm {κ α:Type}{Q:Nat→Heap→Prop}(h:SatL H L)(kenc:κ→Value)(venc:α→Value)(k:∀b H',SatL H' (mapA kenc venc b []::L)→Q b H'):∀(b:Nat) (H':Heap),b=H.size→H'=H.push (.map #[] 0)→Q b H':=by
 rintro b H' rfl rfl;exact k _ _ ((h.push _).mp_new kenc venc)
theorem SatL.st {Q:Heap→Prop}{b o e:Nat}{vs cs:List Value}(h:SatL H L)(i:Nat)(hA:nth i L=cellsA b cs e)(hl:Nat.ble (o+vs.length) cs.length=true)(k:∀H',SatL H' (put i (cellsA b (q1l cs o vs) e) L)→Q H') :
  q38 H b o vs∧∀H',H'=q46 H b o vs→Q H':=by
 refine⟨h.can i hA o vs (zb7 hl),?_⟩;rintro H' rfl;exact k _ (h.set i hA o vs)
theorem qkf {α:Type}:∀(l:List α) (o n f:Nat),f < n→lget ((l.drop o).take n) f=lget l (o+f):=by
 intro l o n f hf;rw [q13,q13,List.getElem?_take_of_lt hf,List.getElem?_drop]
theorem SatL.rds {b o e:Nat}{vs cs:List Value}(h:SatL H L)(i:Nat)(hA:nth i L=cellsA b cs e)(hv:(cs.drop o).take vs.length=vs):q03 H b o vs:=
 q6l fun f v hf=>by
  rw [h.rd i hA,← qkf cs o vs.length f (q9o hf),hv]; exact hf
theorem Ra1 {b o:Nat}{v:Value}(hc:q02 H b o=some v:=by first|exact h.rd 0 rfl _):q02 H b o=some v:=hc
theorem Rs1 {b o:Nat}{vs:List Value}(hc:q03 H b o vs:=by first|exact h.rds 0 rfl rfl):q03 H b o vs:=hc
theorem St1 {Q:Heap→Prop}{b o e i:Nat}{vs cs:List Value}(h:SatL H L)(k:∀H',SatL H' (put i (cellsA b (q1l cs o vs) e) L)→Q H')(hA:nth i L=cellsA b cs e:=by first|exact (rfl:nth 0 _=_))(hl:Nat.ble (o+vs.length) cs.length=true:=by rfl):q38 H b o vs∧∀H',H'=q46 H b o vs→Q H':=h.st i hA hl k
theorem Ra2 {b o:Nat}{v:Value}(hc:q02 H b o=some v:=by first|exact h.rd 0 rfl _|exact h.rd 1 rfl _):q02 H b o=some v:=hc
theorem Rs2 {b o:Nat}{vs:List Value}(hc:q03 H b o vs:=by first|exact h.rds 0 rfl rfl|exact h.rds 1 rfl rfl):q03 H b o vs:=hc
theorem St2 {Q:Heap→Prop}{b o e i:Nat}{vs cs:List Value}(h:SatL H L)(k:∀H',SatL H' (put i (cellsA b (q1l cs o vs) e) L)→Q H')(hA:nth i L=cellsA b cs e:=by first|exact (rfl:nth 0 _=_)|exact (rfl:nth 1 _=_))(hl:Nat.ble (o+vs.length) cs.length=true:=by rfl):q38 H b o vs∧∀H',H'=q46 H b o vs→Q H':=h.st i hA hl k
theorem Ra3 {b o:Nat}{v:Value}(hc:q02 H b o=some v:=by first|exact h.rd 0 rfl _|exact h.rd 1 rfl _|exact h.rd 2 rfl _):q02 H b o=some v:=hc
theorem Rs3 {b o:Nat}{vs:List Value}(hc:q03 H b o vs:=by first|exact h.rds 0 rfl rfl|exact h.rds 1 rfl rfl|exact h.rds 2 rfl rfl):q03 H b o vs:=hc
theorem St3 {Q:Heap→Prop}{b o e i:Nat}{vs cs:List Value}(h:SatL H L)(k:∀H',SatL H' (put i (cellsA b (q1l cs o vs) e) L)→Q H')(hA:nth i L=cellsA b cs e:=by first|exact (rfl:nth 0 _=_)|exact (rfl:nth 1 _=_)|exact (rfl:nth 2 _=_))(hl:Nat.ble (o+vs.length) cs.length=true:=by rfl):q38 H b o vs∧∀H',H'=q46 H b o vs→Q H':=h.st i hA hl k
theorem Ra4 {b o:Nat}{v:Value}(hc:q02 H b o=some v:=by first|exact h.rd 0 rfl _|exact h.rd 1 rfl _|exact h.rd 2 rfl _|exact h.rd 3 rfl _):q02 H b o=some v:=hc
theorem St4 {Q:Heap→Prop}{b o e i:Nat}{vs cs:List Value}(h:SatL H L)(k:∀H',SatL H' (put i (cellsA b (q1l cs o vs) e) L)→Q H')(hA:nth i L=cellsA b cs e:=by first|exact (rfl:nth 0 _=_)|exact (rfl:nth 1 _=_)|exact (rfl:nth 2 _=_)|exact (rfl:nth 3 _=_))(hl:Nat.ble (o+vs.length) cs.length=true:=by rfl):q38 H b o vs∧∀H',H'=q46 H b o vs→Q H':=h.st i hA hl k
theorem SatL.q {b o e:Nat}{vs cs:List Value}(h:SatL H L)(i:Nat)(hA:nth i L=cellsA b cs e:=by rfl)(hv:(cs.drop o).take vs.length=vs:=by rfl):q03 H b o vs:=h.rds i hA hv
theorem SatL.getO {b:Nat}{o:Obj}(h:SatL H L)(i:Nat)(hA:nth i L=pt b o):H[b]?=some o:=by
 have:=h.foc i;rw [hA] at this;exact this.get
theorem SatL.setO {b:Nat}{o:Obj}(h:SatL H L)(i:Nat)(hA:nth i L=pt b o)(o':Obj):SatL (H.setIfInBounds b o') (put i (pt b o') L):=by
 have:=h.foc i;rw [hA] at this;exact SatL.back (q50 this)
theorem SatL.stl {Q:Heap→Prop}{b:Nat}{R R':Loop}(h:SatL H L)(i:Nat)(hA:nth i L=pt b (.loop R))(k:∀H',SatL H' (put i (pt b (.loop R')) L)→Q H'):∀H',H'=q0m H b R'→Q H':=by
 rintro H' rfl;exact k _ (h.setO i hA _)
theorem SatL.rng (h:SatL H L)(R:Loop):SatL ((H.push (.deferred (some []))).push (.loop R)) (pt (H.size+1) (.loop R)::pt H.size (.deferred (some []))::L):=by
 have:=(h.push (.deferred (some []))).push (.loop R)
 rwa [Array.size_push] at this
theorem qq9 {A:List Assn}:SatL H (star A::L)↔SatL H (A++L):=by
 unfold SatL;rw [q8e]; exact Iff.rfl
theorem SatL.open {A:List Assn}(h:SatL H (star A::L)):SatL H (A++L):=qq9.1 h
theorem SatL.shut (A:List Assn)(h:SatL H (A++L)):SatL H (star A::L):=qq9.2 h
theorem q0n {α:Type}{A:α→Assn}:SatL H (exS A::L)↔∃x,SatL H (A x::L):=sat_exs
theorem q01 {b o:Nat}{p:Prop}(h:p):NN (some ⟨b,o,none⟩) p:=h
end
open Go
section
variable {κ α:Type} {kenc:κ→Value} {venc:α→Value} {r:Nat} {m:List (κ × α)} {H:Heap} {L:List Assn} {P:Program}
variable [DecidableEq κ] {t k e:Nat} {z:α} (T:MapT P t k e venc z) (KO:q9s P k kenc)
include T KO
theorem SatL.mp_get {x:κ}(h:SatL H L)(i:Nat)(hA:nth i L=mapA kenc venc r m) :
  q0b P (Instr.lookup t (.map (some r)) (kenc x) true) H (.tuple #[venc ((q08 x m).getD z),.bool (q08 x m).isSome]):=by
 have:=h.mp_look T KO i hA (x:=x)
 cases hm:q08 x m with
 | none=>exact (this.2 hm).1
 | some v=>exact (this.1 v hm).1
theorem SatL.mp_get1 {x:κ}(h:SatL H L)(i:Nat)(hA:nth i L=mapA kenc venc r m) :
  q0b P (Instr.lookup t (.map (some r)) (kenc x) false) H (venc ((q08 x m).getD z)):=by
 have:=h.mp_look T KO i hA (x:=x)
 cases hm:q08 x m with
 | none=>exact (this.2 hm).2
 | some v=>exact (this.1 v hm).2
end
open Go
theorem q66 {R:Loop}(h1:R.state=.ready)(h2:R.pending=none):{ R with state:=.ready,pending:=none }=R:=by
 cases R; simp only at h1 h2; subst h1; subst h2; rfl
open Go
theorem SatL.old_rd {H H0:Heap}{L:List Assn}(h:SatL H L)(i:Nat)(hA:nth i L=old H0){a:Option Addr}{cs:List Value}(hr:rdS H0 a cs):rdS H a cs:=fun j v hj=>⟨(hr j v hj).1,h.cell0 i hA (hr j v hj).2⟩
theorem SatL.old_grow {H H0:Heap}{L:List Assn}(h:SatL H L)(i:Nat)(hA:nth i L=old H0):Grow H0 H:=fun b hb=>h.was i hA hb
theorem SatL.ce_rd {H:Heap}{L:List Assn}(h:SatL H L)(i:Nat){b e:Nat}{cs:List Value}(hA:nth i L=cellsA b cs e):rdS H (some ⟨b,0,none⟩) cs:=fun j v hj=>⟨rfl,by
 simp only [adrB,adrO,z9e];rw [h.rd i hA]; exact hj⟩
theorem sat0 (H:Heap):SatL H [old H]:=by unfold SatL star; exact (z4r H).eq (by rw [star,qu5])
open Go
abbrev U8:=Value.int .u8
def KIn (Q:Assn)(a:Option Addr)(cs:List Value):Prop:=∀H F,SatL H (Q::F)→rdS H a cs
def Sub (Q Q':Assn):Prop:=∀H F,SatL H (Q'::F)→∃F',SatL H (Q::F')
def KG (H0:Heap)(Q:Assn):Prop:=∀H F,SatL H (Q::F)→Grow H0 H
theorem Sub.refl (Q:Assn):Sub Q Q:=fun H F h=>⟨F,h⟩
theorem Sub.trans {Q Q' Q'':Assn}(h:Sub Q Q')(h2:Sub Q' Q''):Sub Q Q'':=fun H F hs=>by
 obtain⟨F',h'⟩:=h2 H F hs;exact h H F' h'
theorem q1z {H:Heap}{A B:Assn}{L:List Assn}:SatL H ((A*B)::L)↔SatL H (A::B::L):=by
 unfold SatL;simp only [star];rw [q1t]
theorem Sub.add (A Q:Assn):Sub Q (A*Q):=fun H F h=>⟨A::F,(q1z.1 h).ord [1,0] (by decide) |> fun _=>by
 have:=(q1z.1 h).o [1,0] 2;exact this⟩
theorem KIn.sub {Q Q':Assn}{a:Option Addr}{cs:List Value}(h:KIn Q a cs)(hs:Sub Q Q'):KIn Q' a cs:=fun H F hq=>by
 obtain⟨F',h'⟩:=hs H F hq;exact h H F' h'
theorem KG.sub {Q Q':Assn}{H0:Heap}(h:KG H0 Q)(hs:Sub Q Q'):KG H0 Q':=fun H F hq=>by
 obtain⟨F',h'⟩:=hs H F hq;exact h H F' h'
theorem KG.old (H0:Heap):KG H0 (old H0):=fun H F h=>h.old_grow 0 rfl
theorem KIn.old {H0:Heap}{a:Option Addr}{cs:List Value}(h:rdS H0 a cs):KIn (old H0) a cs:=fun H F hs=>hs.old_rd 0 rfl h
theorem KIn.sl {Q:Assn}{e sz n c:Nat}{a:Option Addr}{cs:List Value}:KIn (slA e sz a n c cs*Q) a cs:=fun H F h=>(q1z.1 h).sl_rd 0 rfl
theorem KIn.nil (Q:Assn)(a:Option Addr):KIn Q a []:=fun H F h=>q9p H a
theorem KIn.at {Q:Assn}{a:Option Addr}{cs:List Value}{H:Heap}{L:List Assn}(h:KIn Q a cs)(hs:SatL H L)(i:Nat)(hA:nth i L=Q):rdS H a cs:=by
 have h2:=hs.foc i;rw [hA] at h2;exact h H (del i L) h2
theorem qaz {H:Heap}{cs:List Value}(h:rdS H none cs):cs=[]:=by
 cases cs with
 | nil=>rfl
 | cons v r=>have:=(h 0 v rfl).1; cases this
theorem qib {α:Type}{enc:α→Value}(he:∀x,q09 [enc x]=true):∀l:List α,q09 (l.map enc)=true
 | []=>rfl
 | a::r=>by
  have h1:=he a;have h2:=qib he r;have:q09 (enc a::r.map enc)=q09 ([enc a]++r.map enc):=rfl;rw [z9n,this];exact q7c h1 h2
open Go
def qd8 (op:Op):Bool:=match op with|.call cl=>(match cl.callee with|.builtin .recover=>true|_=>false)|_=>false
def defK (K:Heap→Prop):QT
 | .normal,_,M,H=>q98 M (K H)
 | .ret,_,M,H=>q98 M (K H)
 | _,_,_,_=>False
def vcDef (X:Ctx)(fn:Func)(an:Ann)(args:List Value)(rv:Value)(H:Heap)(K:Heap→Prop):Prop:=
 match fn.body with
 | some (.seq (.region _ ops false) b)=>(match ops.toList,an,fn.results.toList with
  | o::r,.seq .reg y,[]=>(match o.guard,o.dst with
   | none,some t=>if qd8 o.op=false then False else
     qht (X.kq [] [] fun _ _ _ _=>False) ops true (fun fr' M H'=>q98 M (q2p X none b y (defK K) fr' H')) r [] [] (lset (qfu args fn.ntmps) t (.p rv)) H
   | _,_=>False)
  | _,_,_=>False)
 | _=>False
section
variable {X:Ctx}
theorem qu7 {P:Program}{o:Oper}{ρ:Operand→Value}{w:World}(h:qd8 o.op=true):(execOp ρ o).run P w=.ok .recover w:=by
 unfold qd8 at h
 split at h
 ·rename_i cl hop
  split at h
  ·rename_i hcl;simp [execOp,hop,resolve,hcl,invoke,builtin]
  ·cases h
 ·cases h
theorem qzz (hm:X.P.follows .mixedOrders=true)(hX:∀f,memN f X.calls=true→q3b X.P f){f:FuncId}{fn:Func}(hf:X.P.funcs[f]?=some fn)(an:Ann){args:List Value}{rv:Value}{u u':FrameMode}{H:Heap}{K:Heap→Prop}
  (hu:(u=.returning∧rv=.nilIface∧u'=.returning)∨(u=panM rv false∧u'=panM rv true))
  (h:vcDef X fn an args rv H K):DefQ X.P f args u H fun u'' H'=>u''=u'∧K H':=by
 intro w hw;subst hw;unfold vcDef at h
 split at h
 case h_2=>exact h.elim
 rename_i id ops b hb
 split at h
 case h_2=>exact h.elim
 rename_i o r y hops hres
 split at h
 case h_2=>exact h.elim
 rename_i t hg hd;obtain⟨hrec,h⟩:=q2q h;have hrec:qd8 o.op=true:=by simpa using hrec
 refine callsDIn_of_wpSIn hf hb trivial fun c₀ cs hc₀=>wpSIn_seq ?_
 intro bf k hbk hbr hF hroom;have h0:ops[0]?=some o:=by
  have:ops.toList[0]?=some o:=by rw [hops]; rfl
  simpa using this
 have hsz:ops.size=r.length+1:=by rw [← za1,hops]; rfl
 have hrange:List.range ops.size=0::List.range' 1 r.length:=by rw [hsz,List.range_eq_range',List.range'_succ]
 have hwn:∀a:Act,Region.wanted o (yielded ops a.tmps)=true:=fun a=>by simp [Region.wanted,hg]
 generalize ha:({ tmps:=(⟨args⟩:Array Value)++Array.replicate (fn.ntmps - (⟨args⟩:Array Value).size) undef,defers:=[] }:Act)=a at *;have R0:Rel (qfu args fn.ntmps) a:=by rw [← ha]; exact ql8 args fn.ntmps
 have had:a.defers=[]:=by rw [← ha]
 have hput:(a.put o.dst rv).tmps=a.tmps.setIfInBounds t rv:=by rw [hd,qaq]
 have R1:Rel (lset (qfu args fn.ntmps) t (.p rv)) (a.put o.dst rv):=by
  refine⟨by rw [hput,q41,Array.size_setIfInBounds]; exact R0.size,fun m v hv=>?_,fun m j w' v hv=>?_⟩
  ·rw [q3c] at hv;rw [hput,Array.getElem?_setIfInBounds,R0.size]
   split at hv
   ·rename_i hc; cases hv; rw [if_pos hc.1,if_pos hc.2]
   ·rename_i hc
    by_cases e:t=m
    ·subst e;exfalso;exact hc ⟨rfl,by rw [q1d] at hv; exact (List.getElem?_eq_some_iff.1 hv).1⟩
    ·rw [if_neg e]; exact R0.pv _ _ hv
  ·rw [q3c] at hv
   split at hv
   ·cases hv
   ·exact R0.ng _ _ _ _ hv
 have hlist:wpListIn (FR none) 0 X.P ops (fun e a' w'=>e=.normal∧Rest w w'∧a'.defers=[]∧∃fr',Rel fr' a'∧q2p X none b y (defK K) fr' w'.heap) r (a.put o.dst rv) w:=by
  refine q7s (X:=X.kq [] [] fun _ _ _ _=>False) (ro:=none) (w0:=w) (Inv:=fun a'=>a'.defers=[]) hX (fun a' o' v _ ha'=>?_) (fun fr' a' w' h1 h2 h3 h4=>?_) (fun fr' a' w' g cap _ h1 h2 h3 h4=>h3.elim) (fun v a' w' _ _ hk=>hk.elim)
   r [] [] _ _ w (fun o' ho'=>by rw [hops]; exact z99 _ ho') ?_ (q7r R1) (Rest.refl w) h
  ·cases o'.dst <;> exact ha'
  ·exact⟨rfl,h1,h4,fr',h2,h3⟩
  ·rw [hd]; exact had
 have hlist':wpOpsIn Fence.wide 0 X.P ops (fun e a' w'=>e=.normal∧Rest w w'∧a'.defers=[]∧∃fr',Rel fr' a'∧q2p X none b y (defK K) fr' w'.heap) (List.range' 1 r.length) (a.put o.dst rv) w:=by
  rw [wpOpsIn_eq_wpListIn r 1 (fun j=>by rw [← Array.getElem?_toList,hops,Nat.add_comm]; rfl)]
  exact hlist
 obtain⟨cs',hcs',hstep⟩:∃cs',cs'={ c₀ with mode:=u' }::cs∧step X.P (lone (bf.atR a (.inRegion ops (0::List.range' 1 r.length)::k)) (c₀::cs) w)=.next (lone (bf.atR (a.put o.dst rv) (.inRegion ops (List.range' 1 r.length)::k)) cs' w):=by
  refine⟨_,rfl,step_lone_go ?_⟩;have hgs:=stepGR_op (P:=X.P) (b:=bf) (k:=k) (cs:=c₀::cs) (w:=w) (rest:=List.range' 1 r.length) h0 (hwn a);rw [hbr,Oper.semAt_none] at hgs;have hfin:(bf.atR a (.inRegion ops (0::List.range' 1 r.length)::k)).finish rv=bf.atR (a.put o.dst rv) (.inRegion ops (List.range' 1 r.length)::k):=by
   rw [Frame.finish_atR,h0]; rfl
  have hr:=qu7 (P:=X.P) (ρ:=a.eval) (w:=w) hrec;have htr:=tryRecover_deferred (fr:=bf.atR a (.inRegion ops (0::List.range' 1 r.length)::k)) hbk (c₀::cs);rw [hgs,← hfin];simp only [Frame.atR,hbr] at htr ⊢
  rcases hu with ⟨rfl,rfl,rfl⟩|⟨rfl,rfl⟩
  ·have hrd:recoverD (c₀::cs)=none:=by simp [recoverD,hc₀]
   rw [hrd] at htr;have hcc:({ c₀ with mode:=FrameMode.returning }:Frame)=c₀:=by rw [← hc₀]
   simp [stepG.apply,hr,htr,hcc]
  ·have hrd:recoverD (c₀::cs)=some (rv,{ c₀ with mode:=panM rv true }::cs):=by simp [recoverD,hc₀,panM]
   rw [hrd] at htr;simp [stepG.apply,hr,htr]
 subst hcs';obtain⟨e,a',w',⟨rfl,hr',hd',fr',hR',hcode⟩,harr⟩:=wp_opsIn _ _ _ hlist' bf k ({ c₀ with mode:=u' }::cs) hbr hF hroom;refine⟨.normal,a',{ c₀ with mode:=u' }::cs,w',rfl,?_,?_⟩
 ·show b.wpSIn Fence.wide 0 X.P _ a' ({ c₀ with mode:=u' }::cs) w';refine wpSIn_of_wpIn rfl (wpIn_mono (ql7 hm hX b w none y _ fr' a' w' hR' hr' hcode) fun e a2 w2 hq=>?_)
  obtain⟨q1,M,q2,q3⟩:=hq;have fin:∀fr2,Rel fr2 a2→q98 M (K w2.heap)→a2.defers=[]∧∃u'',({ c₀ with mode:=u' }::cs:List Frame)={ c₀ with mode:=u'' }::cs∧∃v,(results fn a2.tmps).run X.P w2=.ok v w2∧(Rest w w2∧u''=u'∧K w2.heap):=by
   intro fr2 hR2 hk;obtain⟨rfl,hk⟩:=q3d.1 hk;refine⟨by rw [q2.defers]; simpa [qke] using hd',u',rfl,?_⟩;obtain⟨v,_,hv⟩:=qi0 (X:=X) (w:=w2) hR2 fn (fun _=>True) (by rw [hres]; trivial)
   exact⟨v,hv,q1,rfl,hk⟩
  cases e with
  | normal=>obtain⟨fr2,hR2,hk⟩:=q3; exact fin fr2 hR2 hk
  | ret=>obtain⟨fr2,hR2,hk⟩:=q3; exact fin fr2 hR2 hk
  | exit i=>obtain⟨fr2,hR2,hk⟩:=q3; exact hk.elim
  | panic ch=>obtain⟨fr2,hR2,hk⟩:=q3; exact hk.elim
  | _=>exact q3.elim
 ·refine .of_steps (.one (fenced_calm hF hroom rfl) stepR_region) ?_;rw [hrange];refine .of_steps (.one ?_ hstep) harr;exact fenced_oper hF hroom h0 (fun _ _=>trivial)
theorem qlf {P:Program}(hP:X.P=P)(hm:X.P.follows .mixedOrders=true)(hX:∀f,memN f X.calls=true→q3b X.P f){f:FuncId}{fn:Func}(hf:P.funcs[f]?=some fn){an:Ann}{args:List Value}{rv:Value}{u u':FrameMode}{H:Heap}{K:Heap→Prop}{C:Prop}
  (hu:(u=.returning∧rv=.nilIface∧u'=.returning)∨(u=panM rv false∧u'=panM rv true))
  (he:vcDef X fn an args rv H K=C) (h:C):DefQ P f args u H fun u'' H'=>u''=u'∧K H':=by
 subst hP;exact qzz hm hX hf an hu (he▸h)
end
open Go
abbrev bitN (t:Nat):Nat:=Nat.shiftLeft 1 t
def offN (s t:Nat):Nat:=Nat.xor s (Nat.land s (bitN t))
def opdM:List Operand→Nat
 | []=>0
 | .tmp t::r=>Nat.lor (bitN t) (opdM r)
 | _::r=>opdM r
structure LOut where
 n:Nat
 ret:Nat
 ex:List (Nat × Nat)
def exOf:List (Nat × Nat)→Nat→Nat
 | [],_=>0
 | (i,m)::r,j=>match Nat.beq i j with|true=>m|false=>exOf r j
def dstAt (ops:List Oper)(j:Nat):Option Tmp:=match lget ops j with|some o=>o.dst|none=>none
def qu8 (all:List Oper):List Oper→Nat→Nat
 | [],L=>L
 | o::r,L=>
  let a:=match o.dst with|some d=>offN (qu8 all r L) d|none=>qu8 all r L
  let b:=Nat.lor a (opdM o.op.operands.toList)
  match o.guard with|some (j,_)=>(match dstAt all j with|some d=>Nat.lor b (bitN d)|none=>b)|none=>b
def qbr:Code→Nat
 | .region _ ops _=>ops.toList.foldr (fun o s=>Nat.lor (opdM o.op.operands.toList) s) 0
 | .seq a b=>Nat.lor (qbr a) (qbr b)
 | .cond c a b=>Nat.lor (opdM [c]) (Nat.lor (qbr a) (qbr b))
 | .block _ a=>qbr a
 | .loop a=>qbr a
 | .rangeFunc _ _ a b=>Nat.lor (qbr a) (qbr b)
 | _=>0
def q9w:Code→List Nat→List Nat
 | .exit i,own=>if memN i own then [] else [i]
 | .block i a,own=>q9w a (i::own)
 | .seq a b,own=>q9w a own++q9w b own
 | .cond _ a b,own=>q9w a own++q9w b own
 | .loop a,own=>q9w a own
 | .rangeFunc _ _ a b,own=>q9w a own++q9w b own
 | _,_=>[]
def qic:Code→LOut→Nat
 | .skip,o=>o.n
 | .ret,o=>o.ret
 | .exit i,o=>exOf o.ex i
 | .region _ ops _,o=>qu8 ops.toList ops.toList o.n
 | .seq a b,o=>qic a { o with n:=qic b o }
 | .cond c a b,o=>Nat.lor (opdM [c]) (Nat.lor (qic a o) (qic b o))
 | .block i a,o=>qic a { o with ex:=(i,o.n)::o.ex }
 | .loop a,o=>
  let l1:=qic a { o with n:=0 }
  let l2:=Nat.lor (qic a { o with n:=l1 }) l1
  Nat.lor (qic a { o with n:=l2 }) l2
 | .rangeFunc g _ a b,o=>(q9w b []).foldr (fun e s=>Nat.lor (exOf o.ex e) s) (Nat.lor (opdM [g]) (Nat.lor (Nat.lor o.n o.ret) (Nat.lor (qbr a) (qbr b))))
 | _,_=>0
def q8g:Code→Bool
 | .ret=>true
 | .seq a b=>q8g a || q8g b
 | .cond _ a b=>q8g a || q8g b
 | .block _ a=>q8g a
 | .loop a=>q8g a
 | .rangeFunc _ _ a b=>q8g a || q8g b
 | _=>false
def qng:Code→Bool
 | .rangeFunc _ _ _ _=>true
 | .seq a b=>qng a || qng b
 | .cond _ a b=>qng a || qng b
 | .block _ a=>qng a
 | .loop a=>qng a
 | _=>false
def qc2:Code→Nat→Bool × Nat
 | .skip,_|.region _ _ _,_=>(true,0)
 | .exit i,j=>(false,match Nat.beq i j with|true=>1|false=>0)
 | .seq a b,j=>match (qc2 a j).1 with
  | true=>((qc2 b j).1,(qc2 a j).2+(qc2 b j).2)
  | false=>(false,(qc2 a j).2)
 | .cond _ a b,j=>((qc2 a j).1 || (qc2 b j).1,(qc2 a j).2+(qc2 b j).2)
 | .block i a,j=>((qc2 a i).1 || Nat.ble 1 (qc2 a i).2,(qc2 a j).2)
 | .loop a,j=>(false,(qc2 a j).2)
 | .rangeFunc _ _ _ b,j=>(true,match memN j (q9w b []) with|true=>1|false=>0)
 | _,_=>(false,0)
def z4y (c:Code):Bool:=(qc2 c 0).1
def isWk (X:Ctx)(op:Op):Bool:=match q91 X op with|.W=>true|_=>false
def twoW (X:Ctx)(ops:List Oper):Nat→Nat→Bool
 | 0,_=>false
 | n+1,done=>
  let ready:=(List.range ops.length).filter fun i=>!Nat.testBit done i && (match lget ops i with|some o=>o.after.toList.all fun e=>!Region.binds .any e || Nat.testBit done e.on|none=>false)
  match ready.find? fun i=>(match lget ops i with|some o=>!isWk X o.op|none=>false) with
  | some i=>twoW X ops n (Nat.lor done (bitN i))
  | none=>match ready with
   | []=>false
   | [i]=>twoW X ops n (Nat.lor done (bitN i))
   | _=>true
def splitsR (X:Ctx)(ops:List Oper)(draw:Bool):Bool:=
 ops.any (fun o=>o.guard.isSome && isWk X o.op) || (draw && twoW X ops ops.length 0)
def qgm:Code→List Oper
 | .region _ ops _=>ops.toList
 | .seq a b=>qgm a++qgm b
 | .cond _ a b=>qgm a++qgm b
 | .block _ a=>qgm a
 | .loop a=>qgm a
 | .rangeFunc _ _ a b=>qgm a++qgm b
 | _=>[]
def tupT (P:Program)(t:TypeId):Bool:=match P.underlying t with|some (.tuple _)=>true|_=>false
def opSh (P:Program)(o:Oper):Option Sh:=
 match o.op with
 | .alloc _|.box _ _|.fieldAddr _ _ _|.indexAddr _ _ _|.range _ _=>some (.one .adr)
 | .nilCheck _=>match P.underlying o.type with|some (.func _ _ _)=>some (.one .fnv)|_=>some (.one .adr)
 | .makeMap _ _=>some (.one .map)
 | .buildSlice _ _ _|.makeSlice _ _ _=>some (.one .slice)
 | _=>if tupT P o.type then none else q6f P o.type
def qnh (P:Program)(t:Nat):List Oper→Option Sh
 | []=>none
 | o::r=>match o.dst with
  | some d=>(match Nat.beq d t with
   | true=>(match opSh P o with|some s=>some s|none=>qnh P t r)
   | false=>qnh P t r)
  | none=>qnh P t r
def resSh (P:Program)(t:Nat):List ResultVar→List TypeId→Option Sh
 | .tmp u::r,ty::ts=>match Nat.beq u t with|true=>q6f P ty|false=>resSh P t r ts
 | _::r,_::ts=>resSh P t r ts
 | _,_=>none
def slotSh (P:Program)(fn:Func)(c:Code)(t:Nat):Option Sh:=
 match lget fn.params.toList t with
 | some ty=>q6f P ty
 | none=>match resSh P t fn.results.toList fn.resultTypes.toList with
  | some s=>some s
  | none=>qnh P t (qgm c)
def z4z (t:Nat):List Oper→Option TypeId
 | []=>none
 | o::r=>match o.dst with|some d=>(match Nat.beq d t with|true=>some o.type|false=>z4z t r)|none=>z4z t r
def slotT (fn:Func)(c:Code)(t:Nat):Option TypeId:=match lget fn.params.toList t with|some ty=>some ty|none=>z4z t (qgm c)
def qxi (P:Program)(fn:Func)(c:Code)(m:Nat):List Nat→Live
 | []=>[]
 | t::r=>match Nat.testBit m t with
  | true=>(match slotSh P fn c t with|some s=>(t,s)::qxi P fn c m r|none=>qxi P fn c m r)
  | false=>qxi P fn c m r
def dstM:List Nat→Nat
 | []=>0
 | t::r=>Nat.lor (bitN t) (dstM r)
def qni (P:Program)(fn:Func)(c:Code)(ds:List Nat)(out:Nat):Live:=qxi P fn c (Nat.land (dstM ds) out) (List.range fn.ntmps)
def insN (x:Nat):List Nat→List Nat
 | []=>[x]
 | y::r=>match Nat.ble x y with|true=>(match Nat.beq x y with|true=>y::r|false=>x::y::r)|false=>y::insN x r
def shsOf (P:Program):List TypeId→List Sh
 | []=>[]
 | t::r=>match q6f P t with|some s=>s::shsOf P r|none=>shsOf P r
def rngSh (P:Program)(fn:Func)(c:Code)(g:Operand):List Sh:=
 match g with
 | .tmp t=>(match slotT fn c t with
  | some ty=>(match P.underlying ty with
   | some (.func ps _ _)=>(match ps.toList with
    | yt::_=>(match P.underlying yt with|some (.func qs _ _)=>shsOf P qs.toList|_=>[])
    | []=>[])
   | _=>[])
  | none=>[])
 | _=>[]
def annC (X:Ctx)(fn:Func)(top:Code):Code→LOut→Ann
 | .region _ ops d,o=>match splitsR X ops.toList d with|true=>.regJ (qni X.P fn top (q3r ops.toList) o.n)|false=>.reg
 | .seq a b,o=>.seq (annC X fn top a { o with n:=qic b o }) (annC X fn top b o)
 | .cond _ a b,o=>match z4y a && z4y b && !(qng a || qng b) with
  | true=>.condJ (qni X.P fn top (dsts a++dsts b) o.n) (annC X fn top a o) (annC X fn top b o)
  | false=>.cond (annC X fn top a o) (annC X fn top b o)
 | .block i a,o=>match Nat.ble 2 ((qc2 a i).2+(match z4y a with|true=>1|false=>0)) && !qng a with
  | true=>.blkJ (qni X.P fn top (dsts a) o.n) (annC X fn top a { o with ex:=(i,o.n)::o.ex })
  | false=>.blk (annC X fn top a { o with ex:=(i,o.n)::o.ex })
 | .loop a,o=>
  let L:=qic (.loop a) o
  .loop (qni X.P fn top (dsts a) L) (annC X fn top a { o with n:=L })
 | .rangeFunc g _ a b,_=>
  .rng (rngSh X.P fn top g) (none::(match q8g b with|true=>[some .ret]|false=>[])++((q9w b []).foldr insN []).map fun i=>some (.exit i))
   (annC X fn top a { n:=qic b { n:=0,ret:=0,ex:=[] },ret:=0,ex:=[] }) (annC X fn top b { n:=0,ret:=0,ex:=[] })
 | _,_=>.no
def resM:List ResultVar→Nat
 | []=>0
 | .tmp t::r=>Nat.lor (bitN t) (resM r)
 | _::r=>resM r
def annF (X:Ctx)(fn:Func):Ann:=match fn.body with
 | some c=>annC X fn c c { n:=resM fn.results.toList,ret:=resM fn.results.toList,ex:=[] }
 | none=>.no
def extSh (P:Program)(d i:Nat):List Oper→Sh
 | []=>.one .raw
 | o::r=>match o.op with
  | .extract (.tmp t) j=>(match Nat.beq t d && Nat.beq i j with|true=>(match q6f P o.type with|some s=>s|none=>.one .raw)|false=>extSh P d i r)
  | _=>extSh P d i r
def z51 (P:Program)(all:List Oper):List Oper→List (Nat × Sh × Sh)
 | []=>[]
 | o::r=>match o.op,o.dst with
  | .entry _,some d=>(d,extSh P d 0 all,extSh P d 1 all)::z51 P all r
  | _,_=>z51 P all r
def nxF (X:Ctx)(fn:Func):Ctx:=X.nx (match fn.body with|some c=>z51 X.P (qgm c) (qgm c)|none=>[])
def vcG (X:Ctx)(f:FuncId)(args:List Value)(H:Heap)(K:Value→Heap→Prop):Prop:=match X.P.funcs[f]? with
 | some fn=>vcFun (nxF X fn) fn (annF X fn) args H K
 | none=>False
def vcGP (X:Ctx)(f:FuncId)(args:List Value)(H:Heap)(K KP:Value→Heap→Prop):Prop:=match X.P.funcs[f]? with
 | some fn=>qpx (nxF X fn) fn (annF X fn) args H K KP
 | none=>False
theorem callG {X:Ctx}{P:Program}(hP:X.P=P)(hm:X.P.follows .mixedOrders=true)(hX:∀f,memN f X.calls=true→q3b X.P f){f:FuncId}{args:List Value}{H:Heap}{K:Value→Heap→Prop}(h:vcG X f args H K):qcq P f args.toArray H K:=by
 unfold vcG at h
 split at h
 case h_2=>exact h.elim
 rename_i fn hf;exact qu3 (X:=nxF X fn) (an:=annF X fn) hP hm hX (hP▸hf) rfl h
theorem callGP {X:Ctx}{P:Program}(hP:X.P=P)(hm:X.P.follows .mixedOrders=true)(hX:∀f,memN f X.calls=true→q3b X.P f){f:FuncId}{args:List Value}{H:Heap}{K KP:Value→Heap→Prop}(h:vcGP X f args H K KP):qzf P f args.toArray H K KP:=by
 unfold vcGP at h
 split at h
 case h_2=>exact h.elim
 rename_i fn hf;exact qu4 (X:=nxF X fn) (an:=annF X fn) hP hm hX (hP▸hf) rfl h
end Go.Nm
